/- What is ahead, as the document says it: one token. -/
import Derived.Test.YtoknkgeojhekoaaDoorTok
namespace Go.Proofs.YtoknkgeojhekoaaDoor
open Go.RowKit Go.Shelf
set_option linter.unusedVariables false
set_option linter.unusedSimpArgs false

set_option maxRecDepth 100000 in
set_option maxHeartbeats 1600000 in
theorem rtoken_any (s : ByteArray) (at0 : Nat) (w : World) (hs : s.size ≤ 4611686018427387904) (hat : at0 < s.size) :
    Calls Tryd.prog 19 #[.string s, .int .i64 at0] w fun e w' => e = .returned (tokV (tokR (s.data.toList.drop at0)) (if (tokR (s.data.toList.drop at0)).err = 0 then (at0 : Int) else 0) (s.extract at0 (at0 + (tokR (s.data.toList.drop at0)).len))) ∧ Below w.heap.size w w' := by
  have hat2 : at0 ≤ s.size := by omega
  have i0 : (0 : Int) ≤ (at0 : Int) := by omega
  have i1 : (at0 : Int) < (s.size : Int) := by omega
  obtain ⟨l, hl⟩ : ∃ l, s.data.toList.drop at0 = l := ⟨_, rfl⟩
  obtain ⟨R, hR⟩ : ∃ R, tokR l = R := ⟨_, rfl⟩
  rw [hl, hR]
  have hhd : hdI l = (s[at0].toNat : Int) := by
    rw [← hl, drop_byte hat]
    rfl
  have cS := rsign_any s at0 (w.alloc (.cells #[.int .i64 0, .int .i64 0, .string ⟨#[]⟩, .int .u32 0] 32)) hs hat
  rw [hl] at cS
  have c6 := rrun_any 1 s at0 (w.alloc (.cells #[.int .i64 0, .int .i64 0, .string ⟨#[]⟩, .int .u32 0] 32)) hs hat2
  rw [show kindB 1 = sixB from rfl] at c6
  obtain ⟨q, hq⟩ : ∃ x, s.extract at0 (at0 + runN sixB l) = x := ⟨_, rfl⟩
  have hql : q.data.toList = l.take (runN sixB l) := by
    rw [← hq, extract_list, hl]
    congr 1
    omega
  have hqs : q.size ≤ 4611686018427387904 := by
    have := extract_size_le s at0 (at0 + runN sixB l)
    rw [hq] at this
    omega
  rw [hl, hq] at c6
  have C6 := Lib.hid c6
  have Hq := Lib.hid hq
  clear c6 hq
  have cN := rcount_any q 58 (w.alloc (.cells #[.int .i64 0, .int .i64 0, .string ⟨#[]⟩, .int .u32 0] 32)) hqs
  rw [hql] at cN
  obtain ⟨N, hN⟩ : ∃ N, (l.take (runN sixB l)).count 58 = N := ⟨_, rfl⟩
  unfold tokR at hR
  rw [hN] at cN hR
  rw [hhd] at hR
  have CN := Lib.hid cN
  have CS := Lib.hid cS
  clear cN hql hqs hN hhd cS
  by_cases h2 : 2 ≤ N
  · rw [if_pos h2] at hR
    subst hR
    have hge : (2 : Int) ≤ (N : Int) := by omega
    clear h2 hl
    go_enter Tryd.func19, Tryd.ntmps19
    go_wp2_with fail
    refine C6.out.mono ?_
    rintro e w2 ⟨rfl, rfl⟩
    go_wp2_with fail
    refine CN.out.mono ?_
    rintro e w2 ⟨rfl, rfl⟩
    go_wp2_with fail
    refine bodyPost_ret (v := .tuple #[.agg #[.int .i64 4, .int .i64 at0, .string q, .int .u32 0], .int .i64 0]) (by simp [results, Tryd.results19, go_sem, *]) rfl ⟨by rw [← Hq.out]; rfl, ?_⟩
    exact (Below.refl _ w).alloc (Nat.le_refl _) _
  · rw [if_neg h2] at hR
    have hge : ¬ (2 : Int) ≤ (N : Int) := by omega
    clear h2
    obtain ⟨d, hd⟩ : ∃ d, digitB (s[at0].toNat : Int) = d := ⟨_, rfl⟩
    rw [hd] at hR
    have cd := rdigit_any (s[at0].toNat : Int) (w.alloc (.cells #[.int .i64 0, .int .i64 0, .string ⟨#[]⟩, .int .u32 0] 32))
    rw [hd] at cd
    have Cd := Lib.hid cd
    have HR := Lib.hid hR
    clear hd cd hR
    cases d with
    | true =>
      have hR : figR l = R := HR.out
      clear HR
      have cQ := rrun_any 2 s at0 (w.alloc (.cells #[.int .i64 0, .int .i64 0, .string ⟨#[]⟩, .int .u32 0] 32)) hs hat2
      rw [show kindB 2 = quadB from rfl] at cQ
      obtain ⟨u, hu⟩ : ∃ x, s.extract at0 (at0 + runN quadB l) = x := ⟨_, rfl⟩
      have hul : u.data.toList = l.take (runN quadB l) := by
        rw [← hu, extract_list, hl]
        congr 1
        omega
      have hus : u.size ≤ 4611686018427387904 := by
        have := extract_size_le s at0 (at0 + runN quadB l)
        rw [hu] at this
        omega
      rw [hl, hu] at cQ
      have CQ := Lib.hid cQ
      have Hu := Lib.hid hu
      clear cQ hu
      have cM := rcount_any u 46 (w.alloc (.cells #[.int .i64 0, .int .i64 0, .string ⟨#[]⟩, .int .u32 0] 32)) hus
      rw [hul] at cM
      obtain ⟨M, hM⟩ : ∃ M, (l.take (runN quadB l)).count 46 = M := ⟨_, rfl⟩
      unfold figR at hR
      rw [hM] at cM hR
      have CM := Lib.hid cM
      clear cM hul hus hM
      by_cases h3 : 0 < M
      · rw [if_pos h3] at hR
        subst hR
        have hgt : (0 : Int) < (M : Int) := by omega
        clear h3 hl
        go_enter Tryd.func19, Tryd.ntmps19
        go_wp2_with fail
        refine C6.out.mono ?_
        rintro e w2 ⟨rfl, rfl⟩
        go_wp2_with fail
        refine CN.out.mono ?_
        rintro e w2 ⟨rfl, rfl⟩
        go_wp2_with fail
        refine Cd.out.mono ?_
        rintro e w2 ⟨rfl, rfl⟩
        go_wp2_with fail
        refine CQ.out.mono ?_
        rintro e w2 ⟨rfl, rfl⟩
        go_wp2_with fail
        refine CM.out.mono ?_
        rintro e w2 ⟨rfl, rfl⟩
        go_wp2_with fail
        refine bodyPost_ret (v := .tuple #[.agg #[.int .i64 3, .int .i64 at0, .string u, .int .u32 0], .int .i64 0]) (by simp [results, Tryd.results19, go_sem, *]) rfl ⟨by rw [← Hu.out]; rfl, ?_⟩
        exact (Below.refl _ w).alloc (Nat.le_refl _) _
      · rw [if_neg h3] at hR
        have hgt : ¬ (0 : Int) < (M : Int) := by omega
        have HR := Lib.hid hR
        clear h3 hR
        have cW := rrun_any 3 s at0 (w.alloc (.cells #[.int .i64 0, .int .i64 0, .string ⟨#[]⟩, .int .u32 0] 32)) hs hat2
        rw [show kindB 3 = wordB from rfl] at cW
        obtain ⟨r, hr⟩ : ∃ x, s.extract at0 (at0 + runN wordB l) = x := ⟨_, rfl⟩
        have hrl : r.data.toList = l.take (runN wordB l) := by
          rw [← hr, extract_list, hl]
          congr 1
          omega
        have hrs : r.size ≤ 4611686018427387904 := by
          have := extract_size_le s at0 (at0 + runN wordB l)
          rw [hr] at this
          omega
        rw [hl, hr] at cW
        have CW := Lib.hid cW
        have Hr := Lib.hid hr
        clear cW hr
        have cV := rnumber_any r (w.alloc (.cells #[.int .i64 0, .int .i64 0, .string ⟨#[]⟩, .int .u32 0] 32)) hrs
        rw [hrl] at cV
        clear hrl hrs hl
        cases hn : numL (l.take (runN wordB l)) with
        | some v =>
          obtain ⟨e1, e2⟩ := numL_isSome hn
          rw [e1, e2] at cV
          have CV := Lib.hid cV
          have hR := HR.out
          rw [hn] at hR
          have hR : (⟨0, 1, runN wordB l, v⟩ : TR) = R := hR
          subst hR
          clear e1 e2 cV hn HR
          go_enter Tryd.func19, Tryd.ntmps19
          go_wp2_with fail
          refine C6.out.mono ?_
          rintro e w2 ⟨rfl, rfl⟩
          go_wp2_with fail
          refine CN.out.mono ?_
          rintro e w2 ⟨rfl, rfl⟩
          go_wp2_with fail
          refine Cd.out.mono ?_
          rintro e w2 ⟨rfl, rfl⟩
          go_wp2_with fail
          refine CQ.out.mono ?_
          rintro e w2 ⟨rfl, rfl⟩
          go_wp2_with fail
          refine CM.out.mono ?_
          rintro e w2 ⟨rfl, rfl⟩
          go_wp2_with fail
          refine CW.out.mono ?_
          rintro e w2 ⟨rfl, rfl⟩
          go_wp2_with fail
          refine CV.out.mono ?_
          rintro e w2 ⟨rfl, rfl⟩
          go_wp2_with fail
          refine bodyPost_ret (v := .tuple #[.agg #[.int .i64 1, .int .i64 at0, .string r, .int .u32 v], .int .i64 0]) (by simp [results, Tryd.results19, go_sem, *]) rfl ⟨by rw [← Hr.out]; rfl, ?_⟩
          exact (Below.refl _ w).alloc (Nat.le_refl _) _
        | none =>
          obtain ⟨e1, e2⟩ := numL_isNone hn
          rw [e1, e2] at cV
          have CV := Lib.hid cV
          have hR := HR.out
          rw [hn] at hR
          have hR : (⟨102, 0, 0, 0⟩ : TR) = R := hR
          subst hR
          clear e1 e2 cV hn HR
          go_enter Tryd.func19, Tryd.ntmps19
          go_wp2_with fail
          refine C6.out.mono ?_
          rintro e w2 ⟨rfl, rfl⟩
          go_wp2_with fail
          refine CN.out.mono ?_
          rintro e w2 ⟨rfl, rfl⟩
          go_wp2_with fail
          refine Cd.out.mono ?_
          rintro e w2 ⟨rfl, rfl⟩
          go_wp2_with fail
          refine CQ.out.mono ?_
          rintro e w2 ⟨rfl, rfl⟩
          go_wp2_with fail
          refine CM.out.mono ?_
          rintro e w2 ⟨rfl, rfl⟩
          go_wp2_with fail
          refine CW.out.mono ?_
          rintro e w2 ⟨rfl, rfl⟩
          go_wp2_with fail
          refine CV.out.mono ?_
          rintro e w2 ⟨rfl, rfl⟩
          go_wp2_with fail
          refine bodyPost_ret (v := .tuple #[.agg #[.int .i64 0, .int .i64 0, .string ⟨#[]⟩, .int .u32 0], .int .i64 102]) (by simp [results, Tryd.results19, go_sem, *]) rfl ⟨by first | rfl | (rw [show s.extract at0 (at0 + 0) = ⟨#[]⟩ from extract_nil s at0]; rfl), ?_⟩
          exact (Below.refl _ w).alloc (Nat.le_refl _) _
    | false =>
      have hR := HR.out
      rw [if_neg (by simp)] at hR
      obtain ⟨d, hd⟩ : ∃ d, letterB (s[at0].toNat : Int) = d := ⟨_, rfl⟩
      rw [hd] at hR
      have cl := rletter_any (s[at0].toNat : Int) (w.alloc (.cells #[.int .i64 0, .int .i64 0, .string ⟨#[]⟩, .int .u32 0] 32))
      rw [hd] at cl
      have Cl := Lib.hid cl
      clear hd cl HR
      cases d with
      | true =>
        rw [if_pos rfl] at hR
        subst hR
        have cW := rrun_any 3 s at0 (w.alloc (.cells #[.int .i64 0, .int .i64 0, .string ⟨#[]⟩, .int .u32 0] 32)) hs hat2
        rw [show kindB 3 = wordB from rfl] at cW
        obtain ⟨r, hr⟩ : ∃ x, s.extract at0 (at0 + runN wordB l) = x := ⟨_, rfl⟩
        have hrl : r.data.toList = l.take (runN wordB l) := by
          rw [← hr, extract_list, hl]
          congr 1
          omega
        have hrs : r.size ≤ 4611686018427387904 := by
          have := extract_size_le s at0 (at0 + runN wordB l)
          rw [hr] at this
          omega
        rw [hl, hr] at cW
        have CW := Lib.hid cW
        have Hr := Lib.hid hr
        clear cW hr
        clear hrl hrs hl
        go_enter Tryd.func19, Tryd.ntmps19
        go_wp2_with fail
        refine C6.out.mono ?_
        rintro e w2 ⟨rfl, rfl⟩
        go_wp2_with fail
        refine CN.out.mono ?_
        rintro e w2 ⟨rfl, rfl⟩
        go_wp2_with fail
        refine Cd.out.mono ?_
        rintro e w2 ⟨rfl, rfl⟩
        go_wp2_with fail
        refine Cl.out.mono ?_
        rintro e w2 ⟨rfl, rfl⟩
        go_wp2_with fail
        refine CW.out.mono ?_
        rintro e w2 ⟨rfl, rfl⟩
        go_wp2_with fail
        refine bodyPost_ret (v := .tuple #[.agg #[.int .i64 2, .int .i64 at0, .string r, .int .u32 0], .int .i64 0]) (by simp [results, Tryd.results19, go_sem, *]) rfl ⟨by rw [← Hr.out]; rfl, ?_⟩
        exact (Below.refl _ w).alloc (Nat.le_refl _) _
      | false =>
        rw [if_neg (by simp)] at hR
        obtain ⟨r, hr⟩ : ∃ r, s.extract at0 (at0 + signN l) = r := ⟨_, rfl⟩
        have hrs : r.size = signN l := by
          rw [← hr, ByteArray.size_extract]
          have := (signN_le l).2
          rw [← hl, List.length_drop, size_list, hl] at this
          omega
        have c2 := CS.out
        rw [hr] at c2
        have Hr := Lib.hid hr
        by_cases hz : signN l = 0
        · rw [if_pos hz] at hR
          subst hR
          have hr0 : r = ⟨#[]⟩ := (empty_iff r).2 (by omega)
          rw [hr0] at c2
          have C2 := Lib.hid c2
          clear hrs hz hr0 c2 hr hl
          go_enter Tryd.func19, Tryd.ntmps19
          go_wp2_with fail
          refine C6.out.mono ?_
          rintro e w2 ⟨rfl, rfl⟩
          go_wp2_with fail
          refine CN.out.mono ?_
          rintro e w2 ⟨rfl, rfl⟩
          go_wp2_with fail
          refine Cd.out.mono ?_
          rintro e w2 ⟨rfl, rfl⟩
          go_wp2_with fail
          refine Cl.out.mono ?_
          rintro e w2 ⟨rfl, rfl⟩
          go_wp2_with fail
          refine C2.out.mono ?_
          rintro e w2 ⟨rfl, rfl⟩
          go_wp2_with fail
          refine bodyPost_ret (v := .tuple #[.agg #[.int .i64 0, .int .i64 0, .string ⟨#[]⟩, .int .u32 0], .int .i64 101]) (by simp [results, Tryd.results19, go_sem, *]) rfl ⟨by first | rfl | (rw [show s.extract at0 (at0 + 0) = ⟨#[]⟩ from extract_nil s at0]; rfl), ?_⟩
          exact (Below.refl _ w).alloc (Nat.le_refl _) _
        · rw [if_neg hz] at hR
          subst hR
          have hr0 : r.toList.isEmpty = false := isEmpty_of (by omega)
          have C2 := Lib.hid c2
          clear hrs hz c2 hr hl
          go_enter Tryd.func19, Tryd.ntmps19
          go_wp2_with fail
          refine C6.out.mono ?_
          rintro e w2 ⟨rfl, rfl⟩
          go_wp2_with fail
          refine CN.out.mono ?_
          rintro e w2 ⟨rfl, rfl⟩
          go_wp2_with fail
          refine Cd.out.mono ?_
          rintro e w2 ⟨rfl, rfl⟩
          go_wp2_with fail
          refine Cl.out.mono ?_
          rintro e w2 ⟨rfl, rfl⟩
          go_wp2_with fail
          refine C2.out.mono ?_
          rintro e w2 ⟨rfl, rfl⟩
          go_wp2_with fail
          refine bodyPost_ret (v := .tuple #[.agg #[.int .i64 5, .int .i64 at0, .string r, .int .u32 0], .int .i64 0]) (by simp [results, Tryd.results19, go_sem, *]) rfl ⟨by rw [← Hr.out]; rfl, ?_⟩
          exact (Below.refl _ w).alloc (Nat.le_refl _) _
end Go.Proofs.YtoknkgeojhekoaaDoor
