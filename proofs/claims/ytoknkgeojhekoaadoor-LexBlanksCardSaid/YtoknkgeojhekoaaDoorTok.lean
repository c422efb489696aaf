/- What is ahead: one token. -/
import Derived.Test.YtoknkgeojhekoaaDoorSign
namespace Go.Proofs.YtoknkgeojhekoaaDoor
open Go.RowKit Go.Shelf
set_option linter.unusedVariables false
set_option linter.unusedSimpArgs false

/-- What a token's look says: the error's number, the kind, the length, the value. -/
structure TR where
  err : Int
  kind : Int
  len : Nat
  n : Int
deriving DecidableEq
/-- A text that begins with a digit. -/
def figR (l : List UInt8) : TR :=
  if 0 < (l.take (runN quadB l)).count 46 then ⟨0, 3, runN quadB l, 0⟩
  else match numL (l.take (runN wordB l)) with
    | some v => ⟨0, 1, runN wordB l, v⟩
    | none => ⟨102, 0, 0, 0⟩
def hdI (l : List UInt8) : Int := ((l.headD 0).toNat : Int)
def tokR (l : List UInt8) : TR :=
  if 2 ≤ (l.take (runN sixB l)).count 58 then ⟨0, 4, runN sixB l, 0⟩
  else if digitB (hdI l) then figR l
  else if letterB (hdI l) then ⟨0, 2, runN wordB l, 0⟩
  else if signN l = 0 then ⟨101, 0, 0, 0⟩ else ⟨0, 5, signN l, 0⟩
def tokV (r : TR) (at0 : Int) (t : ByteArray) : Value := .tuple #[.agg #[.int .i64 r.kind, .int .i64 at0, .string t, .int .u32 r.n], .int .i64 r.err]
theorem count_has (l : List UInt8) (c : UInt8) : decide (0 ≤ Lib.indexByte l c) = decide (0 < l.count c) := by
  rw [decide_eq_decide, List.count_pos_iff]
  constructor
  · intro h
    obtain ⟨o, ho⟩ := Int.eq_ofNat_of_zero_le h
    obtain ⟨h1, _⟩ := Lib.indexByte_some ho
    exact List.mem_of_getElem? h1
  · intro h
    have h1 := Lib.indexByte_ge l c
    by_cases e : Lib.indexByte l c = -1
    · obtain ⟨k, hk, he⟩ := List.getElem_of_mem h
      exact absurd (by rw [List.getElem?_eq_getElem hk, he]) (Lib.indexByte_none e k)
    · omega
theorem take_extract (s : ByteArray) (n : Nat) : (s.extract 0 n).data.toList = s.data.toList.take n := by
  rw [extract_list]
  simp
theorem extract_size_le (s : ByteArray) (a b : Nat) : (s.extract a b).size ≤ s.size := by
  rw [ByteArray.size_extract]
  omega
theorem extract_zero (s : ByteArray) : s.extract 0 0 = ⟨#[]⟩ := extract_nil s 0
theorem numL_isSome {l : List UInt8} {v : Int} (h : numL l = some v) : (numL l).isSome = true ∧ (numL l).getD 0 = v := by rw [h]; exact ⟨rfl, rfl⟩
theorem numL_isNone {l : List UInt8} (h : numL l = none) : (numL l).isSome = false ∧ (numL l).getD 0 = 0 := by rw [h]; exact ⟨rfl, rfl⟩
/-- The new variable of a token, in what comes behind. -/
theorem var_later (w : World) {W : World} (hB : Below (w.alloc (.cells #[.int .i64 0, .int .i64 0, .string ⟨#[]⟩, .int .u32 0] 32)).heap.size (w.alloc (.cells #[.int .i64 0, .int .i64 0, .string ⟨#[]⟩, .int .u32 0] 32)) W) : W.heap[w.heap.size]? = some (.cells #[.int .i64 0, .int .i64 0, .string ⟨#[]⟩, .int .u32 0] 32 (0, 0)) ∧ w.heap.size < W.heap.size ∧ Below w.heap.size w W := by
  have h := heap_alloc_new w (.cells #[.int .i64 0, .int .i64 0, .string ⟨#[]⟩, .int .u32 0] 32)
  refine ⟨(hB.block _ (by simp)).trans h, by have := hB.size; simp at this; omega, ((Below.refl _ w).alloc (Nat.le_refl _) _).trans (hB.mono (by simp))⟩
set_option maxRecDepth 100000 in
theorem figure_any (s : ByteArray) (w : World) (hs : s.size ≤ 4611686018427387904) :
    Calls Tryd.prog 32 #[.string s] w fun e w' => e = .returned (tokV (figR s.data.toList) 0 (s.extract 0 (figR s.data.toList).len)) ∧ Below w.heap.size w w' := by
  have hs2 : s.size ≤ 9223372036854775807 := by omega
  obtain ⟨R, hR⟩ : ∃ R, figR s.data.toList = R := ⟨_, rfl⟩
  rw [hR]
  have c0 := run_any _ _ fn_quad s (w.alloc (.cells #[.int .i64 0, .int .i64 0, .string ⟨#[]⟩, .int .u32 0] 32)) hs2
  obtain ⟨q, hq⟩ : ∃ q, s.extract 0 (runN quadB s.data.toList) = q := ⟨_, rfl⟩
  have hql := take_extract s (runN quadB s.data.toList)
  rw [hq] at c0 hql
  have c1 := Tryd.strings_Contains_one q 46 (w.alloc (.cells #[.int .i64 0, .int .i64 0, .string ⟨#[]⟩, .int .u32 0] 32))
  rw [count_has, hql] at c1
  have C0 := Lib.hid c0
  unfold figR at hR
  obtain ⟨b, hb⟩ : ∃ b, decide (0 < (s.data.toList.take (runN quadB s.data.toList)).count 46) = b := ⟨_, rfl⟩
  rw [hb] at c1
  have C1 := Lib.hid c1
  have Hq := Lib.hid hq
  clear c0 c1 hq hql
  cases b with
  | true =>
    rw [if_pos (of_decide_eq_true hb)] at hR
    subst hR
    clear hb
    go_enter Tryd.func32, Tryd.ntmps32
    go_wp2_with fail
    refine C0.out.mono ?_
    rintro e w2 ⟨rfl, rfl⟩
    go_wp2_with fail
    refine C1.out.mono ?_
    rintro e w2 ⟨rfl, rfl⟩
    go_wp2_with fail
    refine bodyPost_ret (v := .tuple #[.agg #[.int .i64 3, .int .i64 0, .string q, .int .u32 0], .int .i64 0]) (by simp [results, Tryd.results32, go_sem, *]) rfl ⟨by rw [← Hq.out]; rfl, ?_⟩
    exact (Below.refl _ w).alloc (Nat.le_refl _) _
  | false =>
    rw [if_neg (of_decide_eq_false hb)] at hR
    have c2 := run_any _ _ fn_word2 s (w.alloc (.cells #[.int .i64 0, .int .i64 0, .string ⟨#[]⟩, .int .u32 0] 32)) hs2
    obtain ⟨r, hr⟩ : ∃ r, s.extract 0 (runN wordB s.data.toList) = r := ⟨_, rfl⟩
    have hrl := take_extract s (runN wordB s.data.toList)
    rw [hr] at c2 hrl
    have hrs : r.size ≤ 4611686018427387904 := by
      have := extract_size_le s 0 (runN wordB s.data.toList)
      rw [hr] at this
      omega
    have c3 := number_any r (w.alloc (.cells #[.int .i64 0, .int .i64 0, .string ⟨#[]⟩, .int .u32 0] 32)) hrs
    rw [hrl] at c3
    have C2 := Lib.hid c2
    have Hr := Lib.hid hr
    have HR := Lib.hid hR
    clear hb c2 hr hrl hR hrs
    cases hn : numL (s.data.toList.take (runN wordB s.data.toList)) with
    | some v =>
      obtain ⟨e1, e2⟩ := numL_isSome hn
      rw [e1, e2] at c3
      have C3 := Lib.hid c3
      have hR := HR.out
      rw [hn] at hR
      have hR : (⟨0, 1, runN wordB s.data.toList, v⟩ : TR) = R := hR
      subst hR
      clear e1 e2 c3 hn HR
      go_enter Tryd.func32, Tryd.ntmps32
      go_wp2_with fail
      refine C0.out.mono ?_
      rintro e w2 ⟨rfl, rfl⟩
      go_wp2_with fail
      refine C1.out.mono ?_
      rintro e w2 ⟨rfl, rfl⟩
      go_wp2_with fail
      refine C2.out.mono ?_
      rintro e w2 ⟨rfl, rfl⟩
      go_wp2_with fail
      refine C3.out.mono ?_
      rintro e w2 ⟨rfl, hB⟩
      obtain ⟨hblk, hsz, hBx⟩ := var_later w hB
      have k0 : w2.cell? ⟨w.heap.size, 0, none⟩ = some (.int .i64 0) := cell_of_row w2 _ 0 _ _ _ hblk
      have k1 : w2.cell? ⟨w.heap.size, 1, none⟩ = some (.int .i64 0) := cell_of_row w2 _ 1 _ _ _ hblk
      have k2 : w2.cell? ⟨w.heap.size, 2, none⟩ = some (.string ⟨#[]⟩) := cell_of_row w2 _ 2 _ _ _ hblk
      have k3 : w2.cell? ⟨w.heap.size, 3, none⟩ = some (.int .u32 0) := cell_of_row w2 _ 3 _ _ _ hblk
      have f0 := frozen_of_row w2 (w.heap.size) 0 _ _ hblk
      have f1 := frozen_of_row w2 (w.heap.size) 1 _ _ hblk
      have f2 := frozen_of_row w2 (w.heap.size) 2 _ _ hblk
      have f3 := frozen_of_row w2 (w.heap.size) 3 _ _ hblk
      have HBx := Lib.hid hBx
      clear hB hblk hBx
      go_wp2_with fail
      refine bodyPost_ret (v := .tuple #[.agg #[.int .i64 1, .int .i64 0, .string r, .int .u32 v], .int .i64 0]) (by simp [results, Tryd.results32, go_sem, *]) rfl ⟨by rw [← Hr.out]; rfl, ?_⟩
      have hBx := HBx.out
      repeat (first | exact hBx | refine Below.setCell ?_ ?_ _ | refine Below.drew ?_ | refine Below.alloc ?_ ?_ _ | exact Below.refl _ _)
      all_goals first | omega | (simp; omega) | simp
    | none =>
      obtain ⟨e1, e2⟩ := numL_isNone hn
      rw [e1, e2] at c3
      have C3 := Lib.hid c3
      have hR := HR.out
      rw [hn] at hR
      have hR : (⟨102, 0, 0, 0⟩ : TR) = R := hR
      subst hR
      clear e1 e2 c3 hn HR
      go_enter Tryd.func32, Tryd.ntmps32
      go_wp2_with fail
      refine C0.out.mono ?_
      rintro e w2 ⟨rfl, rfl⟩
      go_wp2_with fail
      refine C1.out.mono ?_
      rintro e w2 ⟨rfl, rfl⟩
      go_wp2_with fail
      refine C2.out.mono ?_
      rintro e w2 ⟨rfl, rfl⟩
      go_wp2_with fail
      refine C3.out.mono ?_
      rintro e w2 ⟨rfl, hB⟩
      obtain ⟨hblk, hsz, hBx⟩ := var_later w hB
      have k0 : w2.cell? ⟨w.heap.size, 0, none⟩ = some (.int .i64 0) := cell_of_row w2 _ 0 _ _ _ hblk
      have k1 : w2.cell? ⟨w.heap.size, 1, none⟩ = some (.int .i64 0) := cell_of_row w2 _ 1 _ _ _ hblk
      have k2 : w2.cell? ⟨w.heap.size, 2, none⟩ = some (.string ⟨#[]⟩) := cell_of_row w2 _ 2 _ _ _ hblk
      have k3 : w2.cell? ⟨w.heap.size, 3, none⟩ = some (.int .u32 0) := cell_of_row w2 _ 3 _ _ _ hblk
      have f0 := frozen_of_row w2 (w.heap.size) 0 _ _ hblk
      have f1 := frozen_of_row w2 (w.heap.size) 1 _ _ hblk
      have f2 := frozen_of_row w2 (w.heap.size) 2 _ _ hblk
      have f3 := frozen_of_row w2 (w.heap.size) 3 _ _ hblk
      have HBx := Lib.hid hBx
      clear hB hblk hBx
      go_wp2_with fail
      refine bodyPost_ret (v := .tuple #[.agg #[.int .i64 0, .int .i64 0, .string ⟨#[]⟩, .int .u32 0], .int .i64 102]) (by simp [results, Tryd.results32, go_sem, *]) rfl ⟨by rw [extract_zero]; rfl, ?_⟩
      have hBx := HBx.out
      repeat (first | exact hBx | refine Below.setCell ?_ ?_ _ | refine Below.drew ?_ | refine Below.alloc ?_ ?_ _ | exact Below.refl _ _)
      all_goals first | omega | (simp; omega) | simp
theorem hd_byte {s : ByteArray} (h : 0 < s.size) : hdI s.data.toList = (s[0].toNat : Int) := by
  have hd := drop_byte (s := s) (i := 0) h
  rw [List.drop_zero] at hd
  unfold hdI
  rw [hd]
  rfl
set_option maxRecDepth 100000 in
set_option maxHeartbeats 1600000 in
theorem token_any (s : ByteArray) (m : Int) (w : World) (hs : s.size ≤ 4611686018427387904) (hp : 0 < s.size) (hm : w.cell? ⟨0, 0, none⟩ = some (.int .i64 m)) :
    Calls Tryd.prog 21 #[.string s] w fun e w' => e = .returned (tokV (tokR s.data.toList) 0 (s.extract 0 (tokR s.data.toList).len)) ∧ Below w.heap.size w w' := by
  have hs2 : s.size ≤ 9223372036854775807 := by omega
  have hb0 : 0 < w.heap.size := World.block_lt_of_cell? w _ hm
  have hm1 : (w.alloc (.cells #[.int .i64 0, .int .i64 0, .string ⟨#[]⟩, .int .u32 0] 32)).cell? ⟨0, 0, none⟩ = some (.int .i64 m) := (((Below.refl _ w).alloc (Nat.le_refl _) (.cells #[.int .i64 0, .int .i64 0, .string ⟨#[]⟩, .int .u32 0] 32)).cell (p := ⟨0, 0, none⟩) hb0).trans hm
  have Hm1 := Lib.hid hm1
  have i0 : (0 : Int) < (s.size : Int) := by omega
  obtain ⟨R, hR⟩ : ∃ R, tokR s.data.toList = R := ⟨_, rfl⟩
  rw [hR]
  have c0 := run_any _ _ fn_six s (w.alloc (.cells #[.int .i64 0, .int .i64 0, .string ⟨#[]⟩, .int .u32 0] 32)) hs2
  obtain ⟨q, hq⟩ : ∃ q, s.extract 0 (runN sixB s.data.toList) = q := ⟨_, rfl⟩
  have hql := take_extract s (runN sixB s.data.toList)
  rw [hq] at c0 hql
  have c1 := Tryd.strings_Count_one q 58 (w.alloc (.cells #[.int .i64 0, .int .i64 0, .string ⟨#[]⟩, .int .u32 0] 32))
  unfold Lib.countByte at c1
  rw [hql] at c1
  obtain ⟨N, hN⟩ : ∃ N, (s.data.toList.take (runN sixB s.data.toList)).count 58 = N := ⟨_, rfl⟩
  unfold tokR at hR
  rw [hN] at c1 hR
  have C0 := Lib.hid c0
  have C1 := Lib.hid c1
  have Hq := Lib.hid hq
  clear c0 c1 hq hql hN hm hm1
  by_cases h2 : 2 ≤ N
  · rw [if_pos h2] at hR
    subst hR
    have hge : (2 : Int) ≤ (N : Int) := by omega
    clear h2
    go_enter Tryd.func21, Tryd.ntmps21
    go_wp2_with fail
    refine C0.out.mono ?_
    rintro e w2 ⟨rfl, rfl⟩
    go_wp2_with fail
    refine C1.out.mono ?_
    rintro e w2 ⟨rfl, rfl⟩
    go_wp2_with fail
    refine bodyPost_ret (v := .tuple #[.agg #[.int .i64 4, .int .i64 0, .string q, .int .u32 0], .int .i64 0]) (by simp [results, Tryd.results21, go_sem, *]) rfl ⟨by rw [← Hq.out]; rfl, ?_⟩
    exact (Below.refl _ w).alloc (Nat.le_refl _) _
  · rw [if_neg h2] at hR
    have hge : ¬ (2 : Int) ≤ (N : Int) := by omega
    have e0 := hd_byte hp
    rw [e0] at hR
    clear h2 e0
    obtain ⟨d, hd⟩ : ∃ d, digitB (s[0].toNat : Int) = d := ⟨_, rfl⟩
    rw [hd] at hR
    have cd := digit_any (s[0].toNat : Int) (w.alloc (.cells #[.int .i64 0, .int .i64 0, .string ⟨#[]⟩, .int .u32 0] 32))
    rw [hd] at cd
    have Cd := Lib.hid cd
    have HR := Lib.hid hR
    clear hd cd hR
    cases d with
    | true =>
      have hR : figR s.data.toList = R := HR.out
      have cf := figure_any s (w.alloc (.cells #[.int .i64 0, .int .i64 0, .string ⟨#[]⟩, .int .u32 0] 32)) hs
      rw [hR] at cf
      have Cf := Lib.hid cf
      clear hR cf HR
      go_enter Tryd.func21, Tryd.ntmps21
      go_wp2_with fail
      refine C0.out.mono ?_
      rintro e w2 ⟨rfl, rfl⟩
      go_wp2_with fail
      refine C1.out.mono ?_
      rintro e w2 ⟨rfl, rfl⟩
      go_wp2_with fail
      refine Cd.out.mono ?_
      rintro e w2 ⟨rfl, rfl⟩
      go_wp2_with fail
      refine Cf.out.mono ?_
      obtain ⟨t, ht⟩ : ∃ t, s.extract 0 R.len = t := ⟨_, rfl⟩
      rw [ht]
      obtain ⟨e0, k0', n0', v0'⟩ := R
      rintro e w2 ⟨rfl, hB⟩
      obtain ⟨hblk, hsz, hBx⟩ := var_later w hB
      have k0 : w2.cell? ⟨w.heap.size, 0, none⟩ = some (.int .i64 0) := cell_of_row w2 _ 0 _ _ _ hblk
      have k1 : w2.cell? ⟨w.heap.size, 1, none⟩ = some (.int .i64 0) := cell_of_row w2 _ 1 _ _ _ hblk
      have k2 : w2.cell? ⟨w.heap.size, 2, none⟩ = some (.string ⟨#[]⟩) := cell_of_row w2 _ 2 _ _ _ hblk
      have k3 : w2.cell? ⟨w.heap.size, 3, none⟩ = some (.int .u32 0) := cell_of_row w2 _ 3 _ _ _ hblk
      have f0 := frozen_of_row w2 (w.heap.size) 0 _ _ hblk
      have f1 := frozen_of_row w2 (w.heap.size) 1 _ _ hblk
      have f2 := frozen_of_row w2 (w.heap.size) 2 _ _ hblk
      have f3 := frozen_of_row w2 (w.heap.size) 3 _ _ hblk
      have HBx := Lib.hid hBx
      have Ht := Lib.hid ht
      clear hB hblk hBx ht
      unfold tokV
      go_wp2_with fail
      refine bodyPost_ret (v := .tuple #[.agg #[.int .i64 k0', .int .i64 0, .string t, .int .u32 v0'], .int .i64 e0]) (by simp [results, Tryd.results21, go_sem, *]) rfl ⟨by rw [← Ht.out]; rfl, ?_⟩
      have hBx := HBx.out
      repeat (first | exact hBx | refine Below.setCell ?_ ?_ _ | refine Below.drew ?_ | refine Below.alloc ?_ ?_ _ | exact Below.refl _ _)
      all_goals first | omega | (simp; omega) | simp
    | false =>
      have hR := HR.out
      rw [if_neg (by simp)] at hR
      obtain ⟨d, hd⟩ : ∃ d, letterB (s[0].toNat : Int) = d := ⟨_, rfl⟩
      rw [hd] at hR
      have cl := letter_any (s[0].toNat : Int) (w.alloc (.cells #[.int .i64 0, .int .i64 0, .string ⟨#[]⟩, .int .u32 0] 32))
      rw [hd] at cl
      have Cl := Lib.hid cl
      clear hd cl HR
      cases d with
      | true =>
        rw [if_pos rfl] at hR
        subst hR
        have c2 := run_any _ _ fn_word s (w.alloc (.cells #[.int .i64 0, .int .i64 0, .string ⟨#[]⟩, .int .u32 0] 32)) hs2
        obtain ⟨r, hr⟩ : ∃ r, s.extract 0 (runN wordB s.data.toList) = r := ⟨_, rfl⟩
        rw [hr] at c2
        have C2 := Lib.hid c2
        have Hr := Lib.hid hr
        clear c2 hr
        go_enter Tryd.func21, Tryd.ntmps21
        go_wp2_with fail
        refine C0.out.mono ?_
        rintro e w2 ⟨rfl, rfl⟩
        go_wp2_with fail
        refine C1.out.mono ?_
        rintro e w2 ⟨rfl, rfl⟩
        go_wp2_with fail
        refine Cd.out.mono ?_
        rintro e w2 ⟨rfl, rfl⟩
        go_wp2_with fail
        refine Cl.out.mono ?_
        rintro e w2 ⟨rfl, rfl⟩
        go_wp2_with fail
        refine C2.out.mono ?_
        rintro e w2 ⟨rfl, rfl⟩
        go_wp2_with fail
        refine bodyPost_ret (v := .tuple #[.agg #[.int .i64 2, .int .i64 0, .string r, .int .u32 0], .int .i64 0]) (by simp [results, Tryd.results21, go_sem, *]) rfl ⟨by rw [← Hr.out]; rfl, ?_⟩
        exact (Below.refl _ w).alloc (Nat.le_refl _) _
      | false =>
        rw [if_neg (by simp)] at hR
        have c2 := sign_any s m (w.alloc (.cells #[.int .i64 0, .int .i64 0, .string ⟨#[]⟩, .int .u32 0] 32)) hp Hm1.out
        obtain ⟨r, hr⟩ : ∃ r, s.extract 0 (signN s.data.toList) = r := ⟨_, rfl⟩
        have hrs : r.size = signN s.data.toList := by
          rw [← hr, ByteArray.size_extract]
          have := (signN_le s.data.toList).2
          rw [size_list] at this
          omega
        rw [hr] at c2
        have C2 := Lib.hid c2
        have Hr := Lib.hid hr
        clear c2 hr
        by_cases hz : signN s.data.toList = 0
        · rw [if_pos hz] at hR
          subst hR
          have hr0 : r = ⟨#[]⟩ := (empty_iff r).2 (by omega)
          have C3 := C2.out
          rw [hr0] at C3
          have C4 := Lib.hid C3
          clear hrs hz hr0 C3 C2
          go_enter Tryd.func21, Tryd.ntmps21
          go_wp2_with fail
          refine C0.out.mono ?_
          rintro e w2 ⟨rfl, rfl⟩
          go_wp2_with fail
          refine C1.out.mono ?_
          rintro e w2 ⟨rfl, rfl⟩
          go_wp2_with fail
          refine Cd.out.mono ?_
          rintro e w2 ⟨rfl, rfl⟩
          go_wp2_with fail
          refine Cl.out.mono ?_
          rintro e w2 ⟨rfl, rfl⟩
          go_wp2_with fail
          refine C4.out.mono ?_
          rintro e w2 ⟨rfl, hB⟩
          obtain ⟨hblk, hsz, hBx⟩ := var_later w hB
          have k0 : w2.cell? ⟨w.heap.size, 0, none⟩ = some (.int .i64 0) := cell_of_row w2 _ 0 _ _ _ hblk
          have k1 : w2.cell? ⟨w.heap.size, 1, none⟩ = some (.int .i64 0) := cell_of_row w2 _ 1 _ _ _ hblk
          have k2 : w2.cell? ⟨w.heap.size, 2, none⟩ = some (.string ⟨#[]⟩) := cell_of_row w2 _ 2 _ _ _ hblk
          have k3 : w2.cell? ⟨w.heap.size, 3, none⟩ = some (.int .u32 0) := cell_of_row w2 _ 3 _ _ _ hblk
          have f0 := frozen_of_row w2 (w.heap.size) 0 _ _ hblk
          have f1 := frozen_of_row w2 (w.heap.size) 1 _ _ hblk
          have f2 := frozen_of_row w2 (w.heap.size) 2 _ _ hblk
          have f3 := frozen_of_row w2 (w.heap.size) 3 _ _ hblk
          have HBx := Lib.hid hBx
          clear hB hblk hBx
          go_wp2_with fail
          refine bodyPost_ret (v := .tuple #[.agg #[.int .i64 0, .int .i64 0, .string ⟨#[]⟩, .int .u32 0], .int .i64 101]) (by simp [results, Tryd.results21, go_sem, *]) rfl ⟨by rw [extract_zero]; rfl, ?_⟩
          have hBx := HBx.out
          repeat (first | exact hBx | refine Below.setCell ?_ ?_ _ | refine Below.drew ?_ | refine Below.alloc ?_ ?_ _ | exact Below.refl _ _)
          all_goals first | omega | (simp; omega) | simp
        · rw [if_neg hz] at hR
          subst hR
          have hr0 : r.toList.isEmpty = false := isEmpty_of (by omega)
          clear hrs hz
          go_enter Tryd.func21, Tryd.ntmps21
          go_wp2_with fail
          refine C0.out.mono ?_
          rintro e w2 ⟨rfl, rfl⟩
          go_wp2_with fail
          refine C1.out.mono ?_
          rintro e w2 ⟨rfl, rfl⟩
          go_wp2_with fail
          refine Cd.out.mono ?_
          rintro e w2 ⟨rfl, rfl⟩
          go_wp2_with fail
          refine Cl.out.mono ?_
          rintro e w2 ⟨rfl, rfl⟩
          go_wp2_with fail
          refine C2.out.mono ?_
          rintro e w2 ⟨rfl, hB⟩
          obtain ⟨hblk, hsz, hBx⟩ := var_later w hB
          have k0 : w2.cell? ⟨w.heap.size, 0, none⟩ = some (.int .i64 0) := cell_of_row w2 _ 0 _ _ _ hblk
          have k1 : w2.cell? ⟨w.heap.size, 1, none⟩ = some (.int .i64 0) := cell_of_row w2 _ 1 _ _ _ hblk
          have k2 : w2.cell? ⟨w.heap.size, 2, none⟩ = some (.string ⟨#[]⟩) := cell_of_row w2 _ 2 _ _ _ hblk
          have k3 : w2.cell? ⟨w.heap.size, 3, none⟩ = some (.int .u32 0) := cell_of_row w2 _ 3 _ _ _ hblk
          have f0 := frozen_of_row w2 (w.heap.size) 0 _ _ hblk
          have f1 := frozen_of_row w2 (w.heap.size) 1 _ _ hblk
          have f2 := frozen_of_row w2 (w.heap.size) 2 _ _ hblk
          have f3 := frozen_of_row w2 (w.heap.size) 3 _ _ hblk
          have HBx := Lib.hid hBx
          clear hB hblk hBx
          go_wp2_with fail
          refine bodyPost_ret (v := .tuple #[.agg #[.int .i64 5, .int .i64 0, .string r, .int .u32 0], .int .i64 0]) (by simp [results, Tryd.results21, go_sem, *]) rfl ⟨by rw [← Hr.out]; rfl, ?_⟩
          have hBx := HBx.out
          repeat (first | exact hBx | refine Below.setCell ?_ ?_ _ | refine Below.drew ?_ | refine Below.alloc ?_ ?_ _ | exact Below.refl _ _)
          all_goals first | omega | (simp; omega) | simp
end Go.Proofs.YtoknkgeojhekoaaDoor
