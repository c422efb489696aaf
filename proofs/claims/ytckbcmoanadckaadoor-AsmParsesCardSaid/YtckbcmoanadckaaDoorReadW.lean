/- The document's Read. -/
import Derived.Test.YtckbcmoanadckaaDoorReadL
namespace Go.Proofs.YtckbcmoanadckaaDoor
open Go.RowKit Go.Shelf Go.Deep
set_option linter.unusedVariables false
set_option linter.unusedSimpArgs false

theorem candL_none {ns : List Nat} {l : List UInt8} {c : Nat} (cs : List Nat) (h : cand ns c = none) : candL ns l (c :: cs) = candL ns l cs := by
  rw [candL.eq_def]
  simp only [h]
theorem candL_some {ns : List Nat} {l : List UInt8} {c : Nat} {x : Ins} (cs : List Nat) (h : cand ns c = some x) : candL ns l (c :: cs) = if lineL x = l then some x else candL ns l cs := by
  rw [candL.eq_def]
  simp only [h]
theorem codes_mem {c : Nat} (h : c ∈ codesN 256) : c < 256 ∧ knownB c = true := by
  unfold codesN at h
  obtain ⟨h1, h2⟩ := List.mem_filter.1 h
  exact ⟨List.mem_range.1 h1, h2⟩
theorem eq_line {i : Ins} {s : ByteArray} (h : lineL i = s.data.toList) : bs (lineL i) = s := (bs_eq_iff _ _).2 h
theorem ne_line {i : Ins} {s : ByteArray} (h : ¬ lineL i = s.data.toList) : ((bs (lineL i)).toList == s.toList) = false := by
  rw [beq_eq_false_iff_ne, ne_eq, ByteArray.toList_eq, ByteArray.toList_eq]
  intro e
  rw [bs_list] at e
  exact h e
set_option maxRecDepth 100000 in
set_option maxHeartbeats 40000000 in
theorem rread_any (s : ByteArray) (w : World) (hs : s.size ≤ 1000000000) : Calls Tryd.prog 21 #[.string s] w fun e w' => e = .returned (.tuple #[aggN ((rreadL s.data.toList).getD zeroI), .bool (rreadL s.data.toList).isSome]) ∧ Below w.heap.size w w' := by
  obtain ⟨R, hR⟩ : ∃ R, rreadL s.data.toList = R := ⟨_, rfl⟩
  rw [hR]
  have hB0 : Below w.heap.size w (w.alloc (objN ⟨0, 0, 0, 0⟩)) := (Below.refl _ w).alloc (Nat.le_refl _) _
  have cn := numbers_any s (w.alloc (objN ⟨0, 0, 0, 0⟩)) hs
  have hle : ∀ k, (numsL s.data.toList).getD k 0 ≤ 4294967295 := fun k => getD_le _ k
  have hlen : (numsL s.data.toList).length ≤ s.size := by
    have := numsL_len s.data.toList.length s.data.toList
    rw [size_list] at this
    unfold numsL
    rw [size_list]
    exact this
  unfold rreadL at hR
  have hcok : ∀ c x, c ≤ 65535 → cand (numsL s.data.toList) c = some x → InsOk x := fun c x h1 h2 => cand_ok h1 h2
  obtain ⟨ns, hns⟩ : ∃ ns, numsL s.data.toList = ns := ⟨_, rfl⟩
  rw [hns] at hR cn hle hlen hcok
  have hmem : ∀ c ∈ codesN 256, c < 256 ∧ knownB c = true := fun c h => codes_mem h
  have hcl := codesN_len 256
  have hcod : ∀ W, Calls Tryd.prog 43 #[] W fun e w' => ∃ v, e = .returned v ∧ OwnG 1 encC 22 w' W.heap.size v (codesN 256) ∧ Below W.heap.size W w' := fun W => codes_any W
  obtain ⟨CS, hCS⟩ : ∃ CS, codesN 256 = CS := ⟨_, rfl⟩
  rw [hCS] at hR hmem hcl
  simp only [hCS] at hcod
  have HMem := Lib.hid hmem
  have HCod := Lib.hid hcod
  clear hmem hcod hCS
  have HR := Lib.hid hR
  have HB0 := Lib.hid hB0
  have HLe := Lib.hid hle
  have HCok := Lib.hid hcok
  have Cn := Lib.hid cn
  clear hR hB0 cn hle hns hcok
  go_enter Tryd.func21, Tryd.ntmps21
  go_wp2_with fail
  refine Cn.out.mono ?_
  rintro e w1 ⟨v, rfl, hown, hB1⟩
  obtain ⟨A, c, rfl, hA⟩ := OwnG.rs encU_ok hown
  have hz : InsAt w1 w.heap.size ⟨0, 0, 0, 0⟩ := (insAt_new w ⟨0, 0, 0, 0⟩).later hB1
  have hBt := HB0.out.trans (hB1.mono HB0.out.size)
  have hat : ∀ (k : Nat) W, k ≤ 10 → Below w1.heap.size w1 W → Calls Tryd.prog 42 #[.slice A ns.length c, .int .i64 k] W fun e w' => e = .returned (.int .u32 (ns.getD k 0 : Nat)) ∧ W = w' := fun k W hk hW => at_any A c ns k W (hA.later hW) hk (by omega)
  have HAt := Lib.hid hat
  have HZ := Lib.hid hz
  have HBt := Lib.hid hBt
  have HS1 := Lib.hid hBt.size
  have HZl := Lib.hid hz.cells.2.2
  have n0 : (0 : Int) ≤ (ns.length : Int) := by omega
  obtain ⟨x0, h0⟩ : ∃ x, ns.getD 0 0 = x := ⟨_, rfl⟩
  obtain ⟨x1, h1⟩ : ∃ x, ns.getD 1 0 = x := ⟨_, rfl⟩
  obtain ⟨x2, h2⟩ : ∃ x, ns.getD 2 0 = x := ⟨_, rfl⟩
  obtain ⟨x3, h3⟩ : ∃ x, ns.getD 3 0 = x := ⟨_, rfl⟩
  have g0 : Hid (∀ W, Below w1.heap.size w1 W → Calls Tryd.prog 42 #[.slice A ns.length c, .int .i64 0] W fun e w' => e = .returned (.int .u32 x0) ∧ W = w') := Lib.hid fun W hW => by have h := HAt.out 0 W (by decide) hW; rw [h0] at h; exact h
  have g1 : Hid (∀ W, Below w1.heap.size w1 W → Calls Tryd.prog 42 #[.slice A ns.length c, .int .i64 1] W fun e w' => e = .returned (.int .u32 x1) ∧ W = w') := Lib.hid fun W hW => by have h := HAt.out 1 W (by decide) hW; rw [h1] at h; exact h
  have g2 : Hid (∀ W, Below w1.heap.size w1 W → Calls Tryd.prog 42 #[.slice A ns.length c, .int .i64 2] W fun e w' => e = .returned (.int .u32 x2) ∧ W = w') := Lib.hid fun W hW => by have h := HAt.out 2 W (by decide) hW; rw [h2] at h; exact h
  have g3 : Hid (∀ W, Below w1.heap.size w1 W → Calls Tryd.prog 42 #[.slice A ns.length c, .int .i64 3] W fun e w' => e = .returned (.int .u32 x3) ∧ W = w') := Lib.hid fun W hW => by have h := HAt.out 3 W (by decide) hW; rw [h3] at h; exact h
  have m0 : x0 ≤ 4294967295 := by rw [← h0]; exact HLe.out 0
  have m1 : x1 ≤ 4294967295 := by rw [← h1]; exact HLe.out 1
  have m2 : x2 ≤ 4294967295 := by rw [← h2]; exact HLe.out 2
  have m3 : x3 ≤ 4294967295 := by rw [← h3]; exact HLe.out 3
  have H0 := Lib.hid (And.intro h0 (And.intro h1 (And.intro h2 h3)))
  clear hown hA hB1 hz hBt hat h0 h1 h2 h3
  obtain ⟨tb, htb⟩ : ∃ tb, rawB ns = tb := ⟨_, rfl⟩
  have HTB := Lib.hid htb
  clear htb
  go_upto_region 2 with fail
  go_cut [32] (fun s32 W => s32 = .bool tb ∧ w1 = W)
  case first =>
    by_cases hl4 : ns.length = 4
    case neg =>
      have l4 : ((ns.length : Int) == 4) = false := beq_eq_false_iff_ne.2 (by omega)
      have hraw : tb = false := by
        obtain ⟨e0, e1, e2, e3⟩ := H0.out
        rw [← HTB.out]
        unfold rawB
        rw [e0, e1, e2, Bool.eq_false_iff]
        intro h
        simp only [Bool.and_eq_true, decide_eq_true_eq] at h
        omega
      subst hraw
      clear hl4
      go_wp2_with fail
      go_meet
      exact ⟨rfl, rfl⟩
    case pos =>
      have l4 : ((ns.length : Int) == 4) = true := beq_iff_eq.2 (by omega)
      have HL4 := Lib.hid hl4
      clear hl4
      by_cases b0 : x0 < 65536
      case neg =>
        have d0 : decide ((x0 : Int) < 65536) = false := decide_eq_false (by omega)
        have hraw : tb = false := by
          obtain ⟨e0, e1, e2, e3⟩ := H0.out
          rw [← HTB.out]
          unfold rawB
          rw [e0, e1, e2, Bool.eq_false_iff]
          intro h
          simp only [Bool.and_eq_true, decide_eq_true_eq] at h
          omega
        subst hraw
        clear b0
        go_wp2_with fail
        (with_reducible refine (g0.out _ (Below.refl _ _)).mono ?_)
        rintro e w2 ⟨rfl, rfl⟩
        go_wp2_with fail
        go_meet
        exact ⟨rfl, rfl⟩
      case pos =>
        have d0 : decide ((x0 : Int) < 65536) = true := decide_eq_true (by omega)
        by_cases b1 : x1 < 256
        case neg =>
          have d1 : decide ((x1 : Int) < 256) = false := decide_eq_false (by omega)
          have hraw : tb = false := by
            obtain ⟨e0, e1, e2, e3⟩ := H0.out
            rw [← HTB.out]
            unfold rawB
            rw [e0, e1, e2, Bool.eq_false_iff]
            intro h
            simp only [Bool.and_eq_true, decide_eq_true_eq] at h
            omega
          subst hraw
          clear b0 b1
          go_wp2_with fail
          (with_reducible refine (g0.out _ (Below.refl _ _)).mono ?_)
          rintro e w2 ⟨rfl, rfl⟩
          go_wp2_with fail
          (with_reducible refine (g1.out _ (Below.refl _ _)).mono ?_)
          rintro e w2 ⟨rfl, rfl⟩
          go_wp2_with fail
          go_meet
          exact ⟨rfl, rfl⟩
        case pos =>
          have d1 : decide ((x1 : Int) < 256) = true := decide_eq_true (by omega)
          by_cases b2 : x2 < 256
          case neg =>
            have d2 : decide ((x2 : Int) < 256) = false := decide_eq_false (by omega)
            have hraw : tb = false := by
              obtain ⟨e0, e1, e2, e3⟩ := H0.out
              rw [← HTB.out]
              unfold rawB
              rw [e0, e1, e2, Bool.eq_false_iff]
              intro h
              simp only [Bool.and_eq_true, decide_eq_true_eq] at h
              omega
            subst hraw
            clear b0 b1 b2
            go_wp2_with fail
            (with_reducible refine (g0.out _ (Below.refl _ _)).mono ?_)
            rintro e w2 ⟨rfl, rfl⟩
            go_wp2_with fail
            (with_reducible refine (g1.out _ (Below.refl _ _)).mono ?_)
            rintro e w2 ⟨rfl, rfl⟩
            go_wp2_with fail
            (with_reducible refine (g2.out _ (Below.refl _ _)).mono ?_)
            rintro e w2 ⟨rfl, rfl⟩
            go_wp2_with fail
            go_meet
            exact ⟨rfl, rfl⟩
          case pos =>
            have d2 : decide ((x2 : Int) < 256) = true := decide_eq_true (by omega)
            have hraw : tb = true := by
              obtain ⟨e0, e1, e2, e3⟩ := H0.out
              rw [← HTB.out]
              unfold rawB
              rw [e0, e1, e2]
              simp [HL4.out, b0, b1, b2]
            subst hraw
            clear b0 b1 b2
            go_wp2_with fail
            (with_reducible refine (g0.out _ (Below.refl _ _)).mono ?_)
            rintro e w2 ⟨rfl, rfl⟩
            go_wp2_with fail
            (with_reducible refine (g1.out _ (Below.refl _ _)).mono ?_)
            rintro e w2 ⟨rfl, rfl⟩
            go_wp2_with fail
            (with_reducible refine (g2.out _ (Below.refl _ _)).mono ?_)
            rintro e w2 ⟨rfl, rfl⟩
            go_wp2_with fail
            go_meet
            exact ⟨rfl, rfl⟩
  case rest =>
    obtain ⟨rfl, rfl⟩ := hcut
    go_upto_if 32 with fail
    go_cut [5] (fun s5 W => Below w1.heap.size w1 W ∧ Aside (candL ns s.data.toList CS = R))
    case first =>
      cases tb with
      | false =>
        have HRv : Hid (candL ns s.data.toList CS = R) := Lib.hid (by
          rw [← HR.out, if_neg]
          rintro ⟨h, _⟩
          rw [HTB.out] at h
          cases h)
        go_wp2_with fail
        go_meet
        exact ⟨Below.refl _ _, HRv.out⟩
      | true =>
        have hb := HTB.out
        unfold rawB at hb
        obtain ⟨e0, e1, e2, e3⟩ := H0.out
        rw [e0, e1, e2] at hb
        simp only [Bool.and_eq_true, decide_eq_true_eq] at hb
        obtain ⟨⟨⟨hb0, hb1⟩, hb2⟩, hb3⟩ := hb
        have hrc : rawC ns = ⟨x0, x1, x2, x3⟩ := by
          unfold rawC
          rw [e0, e1, e2, e3]
        have hRR := HR.out
        rw [HTB.out, hrc] at hRR
        have HRR := Lib.hid hRR
        have v0 : IntKind.u16.wrap (x0 : Int) = x0 := IntWalk.u16_in _ (by omega)
        have v1 : IntKind.u8.wrap (x1 : Int) = x1 := IntWalk.u8_in _ (by omega)
        have v2 : IntKind.u8.wrap (x2 : Int) = x2 := IntWalk.u8_in _ (by omega)
        have cl := rline_any ⟨x0, x1, x2, x3⟩ (w1.alloc (objN ⟨x0, x1, x2, x3⟩)) ⟨by show x0 ≤ _; omega, by show x1 ≤ _; omega, by show x2 ≤ _; omega, m3⟩
        have Cl := Lib.hid cl
        clear hRR hrc cl e0 e1 e2 e3 hb0 hb1 hb2 hb3
        go_wp2_with fail
        (with_reducible refine (g0.out _ (Below.refl _ _)).mono ?_)
        rintro e w2 ⟨rfl, rfl⟩
        go_wp2_with fail
        (with_reducible refine (g1.out _ (Below.refl _ _)).mono ?_)
        rintro e w2 ⟨rfl, rfl⟩
        go_wp2_with fail
        (with_reducible refine (g2.out _ (Below.refl _ _)).mono ?_)
        rintro e w2 ⟨rfl, rfl⟩
        go_wp2_with fail
        (with_reducible refine (g3.out _ (Below.refl _ _)).mono ?_)
        rintro e w2 ⟨rfl, rfl⟩
        go_wp2_with fail
        refine Cl.out.mono ?_
        rintro e w3 ⟨rfl, hB3⟩
        have hx3 := (insAt_new w1 ⟨x0, x1, x2, x3⟩).later hB3
        have hz3 := (HZ.out.later ((Below.refl _ _).alloc (Nat.le_refl _) (objN ⟨x0, x1, x2, x3⟩))).later hB3
        obtain ⟨⟨q0, q1, q2, q3⟩, ⟨r0, r1, r2, r3⟩, hql⟩ := hx3.cells
        obtain ⟨⟨t0, t1, t2, t3⟩, ⟨u0, u1, u2, u3⟩, hzl⟩ := hz3.cells
        have HB3 := Lib.hid (((Below.refl _ w1).alloc (Nat.le_refl _) _).trans (hB3.mono (by simp)))
        clear hB3 hx3 hz3 hql hzl
        by_cases he : lineL ⟨x0, x1, x2, x3⟩ = s.data.toList
        · have hA4 := HRR.out
          rw [if_pos ⟨by first | exact trivial | rfl, he⟩] at hA4
          have HF := Lib.hid hA4.symm
          have he2 := eq_line he
          have HBL2 := Lib.hid (HBt.out.trans (HB3.out.mono HS1.out))
          clear hA4 he
          go_wp2_with fail
          refine bodyPost_ret (v := .tuple #[aggN ⟨x0, x1, x2, x3⟩, .bool true]) (by simp [results, Tryd.results21, go_sem, *]) rfl ⟨by rw [HF.out]; rfl, by exact belowSet4 HBL2.out _ _ _ _⟩
        · have hA4 := HRR.out
          rw [if_neg fun h => he h.2] at hA4
          have HF := Lib.hid hA4
          have he2 := ne_line he
          clear hA4 he
          go_wp2_with fail
          go_meet
          exact ⟨HB3.out, HF.out⟩
    case rest =>
      obtain ⟨hBQ, hRv⟩ := hcut
      have HBQ := Lib.hid hBQ
      have HRv := Lib.hid hRv.out
      clear hBQ hRv
      have cc0 := fun W => HCod.out W
      have Cc0 := Lib.hid cc0
      clear cc0
      go_wp2_with fail
      refine (Cc0.out _).mono ?_
      rintro e w4 ⟨v4, rfl, hown4, hB4⟩
      obtain ⟨A6, c6, rfl, hC⟩ := OwnG.rs encC_ok hown4
      have hB4 := HBQ.out.trans (hB4.mono HBQ.out.size)
      have HC := Lib.hid hC
      have HB4 := Lib.hid hB4
      have HS4 := Lib.hid hB4.size
      have hz4 := HZ.out.later hB4
      have HZ4 := Lib.hid hz4
      clear hown4 hC hB4 hz4
      go_wp2_with fail
      go_loopg [7] CS.length (fun g t7 wr => ∃ k : Nat, k + g = CS.length ∧ t7 = .int .i64 k ∧ Aside (candL ns s.data.toList (CS.drop k) = R) ∧ InsAt wr w.heap.size ⟨0, 0, 0, 0⟩ ∧ Below w4.heap.size w4 wr)
      case atStart => exact ⟨0, by omega, rfl, by
          show _ = _
          rw [List.drop_zero]
          exact HRv.out, HZ4.out, Below.refl _ _⟩
      case round =>
        obtain ⟨k, hk, rfl, hA, hz, hB⟩ := hrel
        obtain ⟨⟨z0, z1, z2, z3⟩, ⟨y0', y1', y2', y3'⟩, hzl⟩ := hz.cells
        have k0 : (0 : Int) ≤ (k : Int) := by omega
        have HZr := Lib.hid hz
        have HBr := Lib.hid hB
        have hBL := HBt.out.trans ((HB4.out.trans (hB.mono HS4.out)).mono HS1.out)
        have HBL := Lib.hid hBL
        have HBW1 := Lib.hid (HB4.out.trans (hB.mono HS4.out))
        have Hzl := Lib.hid hzl
        clear hz hB hzl hBL
        cases gk with
        | zero =>
          have k1 : ¬ (k : Int) < (CS.length : Int) := by omega
          have hA2 := hA.out
          rw [List.drop_of_length_le (by omega)] at hA2
          have HF := Lib.hid (show R = none from hA2.symm)
          clear hA2 hA
          go_wp2_with fail
          refine bodyPost_ret (v := .tuple #[aggN ⟨0, 0, 0, 0⟩, .bool false]) (by simp [results, Tryd.results21, go_sem, *]) rfl ⟨by rw [HF.out]; rfl, by exact belowSet4 HBL.out _ _ _ _⟩
        | succ g =>
          have k1 : (k : Int) < (CS.length : Int) := by omega
          have hkl : k < CS.length := by omega
          obtain ⟨b6, o6, rfl, -⟩ := HC.out (by omega)
          obtain ⟨cc, hcc⟩ : ∃ x, CS[k]? = some x := ⟨_, List.getElem?_eq_getElem hkl⟩
          have hcell := (HC.out.later HBr.out).cell encC_ok hcc (j := 0) rfl
          simp only [Nat.mul_one, Nat.add_zero] at hcell
          have hccm := List.mem_of_getElem? hcc
          have hdr : CS.drop k = cc :: CS.drop (k + 1) := by
            rw [List.drop_eq_getElem_cons hkl]
            rw [List.getElem?_eq_getElem hkl] at hcc
            rw [Option.some.inj hcc]
          have hA2 := hA.out
          rw [hdr] at hA2
          have HA2 := Lib.hid hA2
          clear hA2 hA hdr hcc hkl
          obtain ⟨hc9, hkb⟩ := HMem.out cc hccm
          have HSr := Lib.hid HBW1.out.size
          have HSr4 := Lib.hid HBr.out.size
          have cc0 : (0 : Int) ≤ (cc : Int) := by omega
          have cc9 : (cc : Int) ≤ 65535 := by omega
          clear hccm
          by_cases h177 : cc = 177
          · subst h177
            have huk : ukB 177 = true := by kernel_rfl
            have huj : rjL.contains 177 = false := by decide
            have hu : ∀ W, Calls Tryd.prog 26 #[.int .u16 177] W fun e w' => (∃ z, e = .returned (.tuple #[.bool true, .bool false, .bool z])) ∧ W = w' := fun W => by
              have h := uses_any 177 W
              rw [show (knownB 177 && ukB 177) = true from by rw [hkb, huk]; rfl, show (knownB 177 && rjL.contains 177) = false from by rw [hkb, huj]; rfl] at h
              exact h
            have HU := Lib.hid hu
            clear hu
            have hcand : cand ns 177 = some ⟨177, 0, 0, x1⟩ := by
              obtain ⟨h0, h1, h2, h3⟩ := H0.out
              unfold cand
              simp only [huk, huj, if_true, if_false, Bool.false_eq_true, Nat.zero_add, Nat.reduceAdd, h0, h1, h2, h3]
            have hA2 := HA2.out
            rw [candL_some _ hcand] at hA2
            have HA3 := Lib.hid hA2
            have hok : InsOk ⟨177, 0, 0, x1⟩ := HCok.out _ _ (by omega) hcand
            have cl := rline_any ⟨177, 0, 0, x1⟩ (wr.alloc (objN ⟨177, 0, 0, x1⟩)) hok
            have Cl := Lib.hid cl
            clear hA2 hcand hok cl
            go_wp2_with fail
            refine (HU.out _).mono ?_
            rintro e w2 ⟨⟨zz, rfl⟩, rfl⟩
            go_wp2_with fail
            refine (g1.out _ (by first | exact HBW1.out | exact HBW1.out.alloc HSr.out _)).mono ?_
            rintro e w2 ⟨rfl, rfl⟩
            go_wp2_with fail
            refine Cl.out.mono ?_
            rintro e w3 ⟨rfl, hB3⟩
            have hx3 := (insAt_new wr ⟨177, 0, 0, x1⟩).later hB3
            have hz3 := (HZr.out.later ((Below.refl _ _).alloc (Nat.le_refl _) (objN ⟨177, 0, 0, x1⟩))).later hB3
            obtain ⟨⟨q0, q1, q2, q3⟩, ⟨r0, r1, r2, r3⟩, hql⟩ := hx3.cells
            obtain ⟨⟨t0, t1, t2, t3⟩, ⟨u0, u1, u2, u3⟩, hzl⟩ := hz3.cells
            have HB3 := Lib.hid ((HBr.out.alloc HSr4.out _).trans (hB3.mono (by have := HSr4.out; simp; omega)))
            have HZ3 := Lib.hid hz3
            clear hB3 hx3 hz3 hql hzl
            by_cases he : lineL ⟨177, 0, 0, x1⟩ = s.data.toList
            · have hA4 := HA3.out
              rw [if_pos he] at hA4
              have HF := Lib.hid hA4.symm
              have he2 := eq_line he
              have HBL2 := Lib.hid (HBt.out.trans ((HB4.out.trans (HB3.out.mono HS4.out)).mono HS1.out))
              clear hA4 he
              go_wp2_with fail
              refine bodyPost_ret (v := .tuple #[aggN ⟨177, 0, 0, x1⟩, .bool true]) (by simp [results, Tryd.results21, go_sem, *]) rfl ⟨by rw [HF.out]; rfl, by exact belowSet4 HBL2.out _ _ _ _⟩
            · have hA4 := HA3.out
              rw [if_neg he] at hA4
              have HF := Lib.hid hA4
              have he2 := ne_line he
              clear hA4 he
              go_wp2_with fail
              go_roundg g
              case measure => omega
              case rel => exact ⟨k + 1, by omega, by go_num, HF.out, HZ3.out, HB3.out⟩
          · cases huk : ukB cc <;> cases huj : rjL.contains cc
            · have hu : ∀ W, Calls Tryd.prog 26 #[.int .u16 cc] W fun e w' => (∃ z, e = .returned (.tuple #[.bool false, .bool false, .bool z])) ∧ W = w' := fun W => by
                have h := uses_any cc W
                rw [show (knownB cc && ukB cc) = false from by rw [hkb, huk]; rfl, show (knownB cc && rjL.contains cc) = false from by rw [hkb, huj]; rfl] at h
                exact h
              have HU := Lib.hid hu
              clear hu
              have e177 : ((cc : Int) == 177) = false := beq_eq_false_iff_ne.2 (by omega)
              have hcand : cand ns cc = some ⟨cc, 0, 0, 0⟩ := by
                obtain ⟨h0, h1, h2, h3⟩ := H0.out
                unfold cand
                simp only [huk, huj, h177, if_true, if_false, Bool.false_eq_true, Nat.zero_add, Nat.reduceAdd, h0, h1, h2, h3]
              have hA2 := HA2.out
              rw [candL_some _ hcand] at hA2
              have HA3 := Lib.hid hA2
              have hok : InsOk ⟨cc, 0, 0, 0⟩ := HCok.out _ _ (by omega) hcand
              have cl := rline_any ⟨cc, 0, 0, 0⟩ (wr.alloc (objN ⟨cc, 0, 0, 0⟩)) hok
              have Cl := Lib.hid cl
              clear hA2 hcand hok cl h177
              go_wp2_with fail
              refine (HU.out _).mono ?_
              rintro e w2 ⟨⟨zz, rfl⟩, rfl⟩
              go_wp2_with fail
              refine Cl.out.mono ?_
              rintro e w3 ⟨rfl, hB3⟩
              have hx3 := (insAt_new wr ⟨cc, 0, 0, 0⟩).later hB3
              have hz3 := (HZr.out.later ((Below.refl _ _).alloc (Nat.le_refl _) (objN ⟨cc, 0, 0, 0⟩))).later hB3
              obtain ⟨⟨q0, q1, q2, q3⟩, ⟨r0, r1, r2, r3⟩, hql⟩ := hx3.cells
              obtain ⟨⟨t0, t1, t2, t3⟩, ⟨u0, u1, u2, u3⟩, hzl⟩ := hz3.cells
              have HB3 := Lib.hid ((HBr.out.alloc HSr4.out _).trans (hB3.mono (by have := HSr4.out; simp; omega)))
              have HZ3 := Lib.hid hz3
              clear hB3 hx3 hz3 hql hzl
              by_cases he : lineL ⟨cc, 0, 0, 0⟩ = s.data.toList
              · have hA4 := HA3.out
                rw [if_pos he] at hA4
                have HF := Lib.hid hA4.symm
                have he2 := eq_line he
                have HBL2 := Lib.hid (HBt.out.trans ((HB4.out.trans (HB3.out.mono HS4.out)).mono HS1.out))
                clear hA4 he
                go_wp2_with fail
                refine bodyPost_ret (v := .tuple #[aggN ⟨cc, 0, 0, 0⟩, .bool true]) (by simp [results, Tryd.results21, go_sem, *]) rfl ⟨by rw [HF.out]; rfl, by exact belowSet4 HBL2.out _ _ _ _⟩
              · have hA4 := HA3.out
                rw [if_neg he] at hA4
                have HF := Lib.hid hA4
                have he2 := ne_line he
                clear hA4 he
                go_wp2_with fail
                go_roundg g
                case measure => omega
                case rel => exact ⟨k + 1, by omega, by go_num, HF.out, HZ3.out, HB3.out⟩
            · have hu : ∀ W, Calls Tryd.prog 26 #[.int .u16 cc] W fun e w' => (∃ z, e = .returned (.tuple #[.bool false, .bool true, .bool z])) ∧ W = w' := fun W => by
                have h := uses_any cc W
                rw [show (knownB cc && ukB cc) = false from by rw [hkb, huk]; rfl, show (knownB cc && rjL.contains cc) = true from by rw [hkb, huj]; rfl] at h
                exact h
              have HU := Lib.hid hu
              clear hu
              by_cases hi1 : 255 < x0
              · have e177 : ((cc : Int) == 177) = false := beq_eq_false_iff_ne.2 (by omega)
                have hcand : cand ns cc = none := by
                  obtain ⟨h0, h1, h2, h3⟩ := H0.out
                  unfold cand
                  simp only [huk, huj, h177, if_true, if_false, Bool.false_eq_true, Nat.zero_add, Nat.reduceAdd, h0, h1, h2, h3]
                  rw [if_pos (by omega)]
                have d1 : (x0 : Int) > 255 := by omega
                have hA2 := HA2.out
                rw [candL_none _ hcand] at hA2
                have HF := Lib.hid hA2
                clear hA2 hcand h177
                go_wp2_with fail
                refine (HU.out _).mono ?_
                rintro e w2 ⟨⟨zz, rfl⟩, rfl⟩
                go_wp2_with fail
                refine (g0.out _ (by first | exact HBW1.out | exact HBW1.out.alloc HSr.out _)).mono ?_
                rintro e w2 ⟨rfl, rfl⟩
                go_wp2_with fail
                go_roundg g
                case measure => omega
                case rel => exact ⟨k + 1, by omega, by go_num, HF.out, HZr.out.later ((Below.refl _ _).alloc (Nat.le_refl _) _), HBr.out.alloc HSr4.out _⟩
              · by_cases hi2 : 255 < x1
                · have e177 : ((cc : Int) == 177) = false := beq_eq_false_iff_ne.2 (by omega)
                  have hcand : cand ns cc = none := by
                    obtain ⟨h0, h1, h2, h3⟩ := H0.out
                    unfold cand
                    simp only [huk, huj, h177, if_true, if_false, Bool.false_eq_true, Nat.zero_add, Nat.reduceAdd, h0, h1, h2, h3]
                    rw [if_pos (by omega)]
                  have d1 : ¬ (x0 : Int) > 255 := by omega
                  have d2 : (x1 : Int) > 255 := by omega
                  have hA2 := HA2.out
                  rw [candL_none _ hcand] at hA2
                  have HF := Lib.hid hA2
                  clear hA2 hcand h177
                  go_wp2_with fail
                  refine (HU.out _).mono ?_
                  rintro e w2 ⟨⟨zz, rfl⟩, rfl⟩
                  go_wp2_with fail
                  refine (g0.out _ (by first | exact HBW1.out | exact HBW1.out.alloc HSr.out _)).mono ?_
                  rintro e w2 ⟨rfl, rfl⟩
                  go_wp2_with fail
                  refine (g1.out _ (by first | exact HBW1.out | exact HBW1.out.alloc HSr.out _)).mono ?_
                  rintro e w2 ⟨rfl, rfl⟩
                  go_wp2_with fail
                  go_roundg g
                  case measure => omega
                  case rel => exact ⟨k + 1, by omega, by go_num, HF.out, HZr.out.later ((Below.refl _ _).alloc (Nat.le_refl _) _), HBr.out.alloc HSr4.out _⟩
                · have e177 : ((cc : Int) == 177) = false := beq_eq_false_iff_ne.2 (by omega)
                  have hcand : cand ns cc = some ⟨cc, x0, x1, 0⟩ := by
                    obtain ⟨h0, h1, h2, h3⟩ := H0.out
                    unfold cand
                    simp only [huk, huj, h177, if_true, if_false, Bool.false_eq_true, Nat.zero_add, Nat.reduceAdd, h0, h1, h2, h3]
                    rw [if_neg (by omega)]
                  have d1 : ¬ (x0 : Int) > 255 := by omega
                  have d2 : ¬ (x1 : Int) > 255 := by omega
                  have w8a : IntKind.u8.wrap (x0 : Int) = x0 := IntWalk.u8_in _ (by omega)
                  have w8b : IntKind.u8.wrap (x1 : Int) = x1 := IntWalk.u8_in _ (by omega)
                  have hA2 := HA2.out
                  rw [candL_some _ hcand] at hA2
                  have HA3 := Lib.hid hA2
                  have hok : InsOk ⟨cc, x0, x1, 0⟩ := HCok.out _ _ (by omega) hcand
                  have cl := rline_any ⟨cc, x0, x1, 0⟩ (wr.alloc (objN ⟨cc, x0, x1, 0⟩)) hok
                  have Cl := Lib.hid cl
                  clear hA2 hcand hok cl h177
                  go_wp2_with fail
                  refine (HU.out _).mono ?_
                  rintro e w2 ⟨⟨zz, rfl⟩, rfl⟩
                  go_wp2_with fail
                  refine (g0.out _ (by first | exact HBW1.out | exact HBW1.out.alloc HSr.out _)).mono ?_
                  rintro e w2 ⟨rfl, rfl⟩
                  go_wp2_with fail
                  refine (g1.out _ (by first | exact HBW1.out | exact HBW1.out.alloc HSr.out _)).mono ?_
                  rintro e w2 ⟨rfl, rfl⟩
                  go_wp2_with fail
                  refine (g0.out _ (by first | exact HBW1.out | exact HBW1.out.alloc HSr.out _)).mono ?_
                  rintro e w2 ⟨rfl, rfl⟩
                  go_wp2_with fail
                  refine (g1.out _ (by first | exact HBW1.out | exact HBW1.out.alloc HSr.out _)).mono ?_
                  rintro e w2 ⟨rfl, rfl⟩
                  go_wp2_with fail
                  refine Cl.out.mono ?_
                  rintro e w3 ⟨rfl, hB3⟩
                  have hx3 := (insAt_new wr ⟨cc, x0, x1, 0⟩).later hB3
                  have hz3 := (HZr.out.later ((Below.refl _ _).alloc (Nat.le_refl _) (objN ⟨cc, x0, x1, 0⟩))).later hB3
                  obtain ⟨⟨q0, q1, q2, q3⟩, ⟨r0, r1, r2, r3⟩, hql⟩ := hx3.cells
                  obtain ⟨⟨t0, t1, t2, t3⟩, ⟨u0, u1, u2, u3⟩, hzl⟩ := hz3.cells
                  have HB3 := Lib.hid ((HBr.out.alloc HSr4.out _).trans (hB3.mono (by have := HSr4.out; simp; omega)))
                  have HZ3 := Lib.hid hz3
                  clear hB3 hx3 hz3 hql hzl
                  by_cases he : lineL ⟨cc, x0, x1, 0⟩ = s.data.toList
                  · have hA4 := HA3.out
                    rw [if_pos he] at hA4
                    have HF := Lib.hid hA4.symm
                    have he2 := eq_line he
                    have HBL2 := Lib.hid (HBt.out.trans ((HB4.out.trans (HB3.out.mono HS4.out)).mono HS1.out))
                    clear hA4 he
                    go_wp2_with fail
                    refine bodyPost_ret (v := .tuple #[aggN ⟨cc, x0, x1, 0⟩, .bool true]) (by simp [results, Tryd.results21, go_sem, *]) rfl ⟨by rw [HF.out]; rfl, by exact belowSet4 HBL2.out _ _ _ _⟩
                  · have hA4 := HA3.out
                    rw [if_neg he] at hA4
                    have HF := Lib.hid hA4
                    have he2 := ne_line he
                    clear hA4 he
                    go_wp2_with fail
                    go_roundg g
                    case measure => omega
                    case rel => exact ⟨k + 1, by omega, by go_num, HF.out, HZ3.out, HB3.out⟩
            · have hu : ∀ W, Calls Tryd.prog 26 #[.int .u16 cc] W fun e w' => (∃ z, e = .returned (.tuple #[.bool true, .bool false, .bool z])) ∧ W = w' := fun W => by
                have h := uses_any cc W
                rw [show (knownB cc && ukB cc) = true from by rw [hkb, huk]; rfl, show (knownB cc && rjL.contains cc) = false from by rw [hkb, huj]; rfl] at h
                exact h
              have HU := Lib.hid hu
              clear hu
              have e177 : ((cc : Int) == 177) = false := beq_eq_false_iff_ne.2 (by omega)
              have hcand : cand ns cc = some ⟨cc, 0, 0, x0⟩ := by
                obtain ⟨h0, h1, h2, h3⟩ := H0.out
                unfold cand
                simp only [huk, huj, h177, if_true, if_false, Bool.false_eq_true, Nat.zero_add, Nat.reduceAdd, h0, h1, h2, h3]
              have hA2 := HA2.out
              rw [candL_some _ hcand] at hA2
              have HA3 := Lib.hid hA2
              have hok : InsOk ⟨cc, 0, 0, x0⟩ := HCok.out _ _ (by omega) hcand
              have cl := rline_any ⟨cc, 0, 0, x0⟩ (wr.alloc (objN ⟨cc, 0, 0, x0⟩)) hok
              have Cl := Lib.hid cl
              clear hA2 hcand hok cl h177
              go_wp2_with fail
              refine (HU.out _).mono ?_
              rintro e w2 ⟨⟨zz, rfl⟩, rfl⟩
              go_wp2_with fail
              refine (g0.out _ (by first | exact HBW1.out | exact HBW1.out.alloc HSr.out _)).mono ?_
              rintro e w2 ⟨rfl, rfl⟩
              go_wp2_with fail
              refine Cl.out.mono ?_
              rintro e w3 ⟨rfl, hB3⟩
              have hx3 := (insAt_new wr ⟨cc, 0, 0, x0⟩).later hB3
              have hz3 := (HZr.out.later ((Below.refl _ _).alloc (Nat.le_refl _) (objN ⟨cc, 0, 0, x0⟩))).later hB3
              obtain ⟨⟨q0, q1, q2, q3⟩, ⟨r0, r1, r2, r3⟩, hql⟩ := hx3.cells
              obtain ⟨⟨t0, t1, t2, t3⟩, ⟨u0, u1, u2, u3⟩, hzl⟩ := hz3.cells
              have HB3 := Lib.hid ((HBr.out.alloc HSr4.out _).trans (hB3.mono (by have := HSr4.out; simp; omega)))
              have HZ3 := Lib.hid hz3
              clear hB3 hx3 hz3 hql hzl
              by_cases he : lineL ⟨cc, 0, 0, x0⟩ = s.data.toList
              · have hA4 := HA3.out
                rw [if_pos he] at hA4
                have HF := Lib.hid hA4.symm
                have he2 := eq_line he
                have HBL2 := Lib.hid (HBt.out.trans ((HB4.out.trans (HB3.out.mono HS4.out)).mono HS1.out))
                clear hA4 he
                go_wp2_with fail
                refine bodyPost_ret (v := .tuple #[aggN ⟨cc, 0, 0, x0⟩, .bool true]) (by simp [results, Tryd.results21, go_sem, *]) rfl ⟨by rw [HF.out]; rfl, by exact belowSet4 HBL2.out _ _ _ _⟩
              · have hA4 := HA3.out
                rw [if_neg he] at hA4
                have HF := Lib.hid hA4
                have he2 := ne_line he
                clear hA4 he
                go_wp2_with fail
                go_roundg g
                case measure => omega
                case rel => exact ⟨k + 1, by omega, by go_num, HF.out, HZ3.out, HB3.out⟩
            · have hu : ∀ W, Calls Tryd.prog 26 #[.int .u16 cc] W fun e w' => (∃ z, e = .returned (.tuple #[.bool true, .bool true, .bool z])) ∧ W = w' := fun W => by
                have h := uses_any cc W
                rw [show (knownB cc && ukB cc) = true from by rw [hkb, huk]; rfl, show (knownB cc && rjL.contains cc) = true from by rw [hkb, huj]; rfl] at h
                exact h
              have HU := Lib.hid hu
              clear hu
              by_cases hi1 : 255 < x1
              · have e177 : ((cc : Int) == 177) = false := beq_eq_false_iff_ne.2 (by omega)
                have hcand : cand ns cc = none := by
                  obtain ⟨h0, h1, h2, h3⟩ := H0.out
                  unfold cand
                  simp only [huk, huj, h177, if_true, if_false, Bool.false_eq_true, Nat.zero_add, Nat.reduceAdd, h0, h1, h2, h3]
                  rw [if_pos (by omega)]
                have d1 : (x1 : Int) > 255 := by omega
                have hA2 := HA2.out
                rw [candL_none _ hcand] at hA2
                have HF := Lib.hid hA2
                clear hA2 hcand h177
                go_wp2_with fail
                refine (HU.out _).mono ?_
                rintro e w2 ⟨⟨zz, rfl⟩, rfl⟩
                go_wp2_with fail
                refine (g0.out _ (by first | exact HBW1.out | exact HBW1.out.alloc HSr.out _)).mono ?_
                rintro e w2 ⟨rfl, rfl⟩
                go_wp2_with fail
                refine (g1.out _ (by first | exact HBW1.out | exact HBW1.out.alloc HSr.out _)).mono ?_
                rintro e w2 ⟨rfl, rfl⟩
                go_wp2_with fail
                go_roundg g
                case measure => omega
                case rel => exact ⟨k + 1, by omega, by go_num, HF.out, HZr.out.later ((Below.refl _ _).alloc (Nat.le_refl _) _), HBr.out.alloc HSr4.out _⟩
              · by_cases hi2 : 255 < x2
                · have e177 : ((cc : Int) == 177) = false := beq_eq_false_iff_ne.2 (by omega)
                  have hcand : cand ns cc = none := by
                    obtain ⟨h0, h1, h2, h3⟩ := H0.out
                    unfold cand
                    simp only [huk, huj, h177, if_true, if_false, Bool.false_eq_true, Nat.zero_add, Nat.reduceAdd, h0, h1, h2, h3]
                    rw [if_pos (by omega)]
                  have d1 : ¬ (x1 : Int) > 255 := by omega
                  have d2 : (x2 : Int) > 255 := by omega
                  have hA2 := HA2.out
                  rw [candL_none _ hcand] at hA2
                  have HF := Lib.hid hA2
                  clear hA2 hcand h177
                  go_wp2_with fail
                  refine (HU.out _).mono ?_
                  rintro e w2 ⟨⟨zz, rfl⟩, rfl⟩
                  go_wp2_with fail
                  refine (g0.out _ (by first | exact HBW1.out | exact HBW1.out.alloc HSr.out _)).mono ?_
                  rintro e w2 ⟨rfl, rfl⟩
                  go_wp2_with fail
                  refine (g1.out _ (by first | exact HBW1.out | exact HBW1.out.alloc HSr.out _)).mono ?_
                  rintro e w2 ⟨rfl, rfl⟩
                  go_wp2_with fail
                  refine (g2.out _ (by first | exact HBW1.out | exact HBW1.out.alloc HSr.out _)).mono ?_
                  rintro e w2 ⟨rfl, rfl⟩
                  go_wp2_with fail
                  go_roundg g
                  case measure => omega
                  case rel => exact ⟨k + 1, by omega, by go_num, HF.out, HZr.out.later ((Below.refl _ _).alloc (Nat.le_refl _) _), HBr.out.alloc HSr4.out _⟩
                · have e177 : ((cc : Int) == 177) = false := beq_eq_false_iff_ne.2 (by omega)
                  have hcand : cand ns cc = some ⟨cc, x1, x2, x0⟩ := by
                    obtain ⟨h0, h1, h2, h3⟩ := H0.out
                    unfold cand
                    simp only [huk, huj, h177, if_true, if_false, Bool.false_eq_true, Nat.zero_add, Nat.reduceAdd, h0, h1, h2, h3]
                    rw [if_neg (by omega)]
                  have d1 : ¬ (x1 : Int) > 255 := by omega
                  have d2 : ¬ (x2 : Int) > 255 := by omega
                  have w8a : IntKind.u8.wrap (x1 : Int) = x1 := IntWalk.u8_in _ (by omega)
                  have w8b : IntKind.u8.wrap (x2 : Int) = x2 := IntWalk.u8_in _ (by omega)
                  have hA2 := HA2.out
                  rw [candL_some _ hcand] at hA2
                  have HA3 := Lib.hid hA2
                  have hok : InsOk ⟨cc, x1, x2, x0⟩ := HCok.out _ _ (by omega) hcand
                  have cl := rline_any ⟨cc, x1, x2, x0⟩ (wr.alloc (objN ⟨cc, x1, x2, x0⟩)) hok
                  have Cl := Lib.hid cl
                  clear hA2 hcand hok cl h177
                  go_wp2_with fail
                  refine (HU.out _).mono ?_
                  rintro e w2 ⟨⟨zz, rfl⟩, rfl⟩
                  go_wp2_with fail
                  refine (g0.out _ (by first | exact HBW1.out | exact HBW1.out.alloc HSr.out _)).mono ?_
                  rintro e w2 ⟨rfl, rfl⟩
                  go_wp2_with fail
                  refine (g1.out _ (by first | exact HBW1.out | exact HBW1.out.alloc HSr.out _)).mono ?_
                  rintro e w2 ⟨rfl, rfl⟩
                  go_wp2_with fail
                  refine (g2.out _ (by first | exact HBW1.out | exact HBW1.out.alloc HSr.out _)).mono ?_
                  rintro e w2 ⟨rfl, rfl⟩
                  go_wp2_with fail
                  refine (g1.out _ (by first | exact HBW1.out | exact HBW1.out.alloc HSr.out _)).mono ?_
                  rintro e w2 ⟨rfl, rfl⟩
                  go_wp2_with fail
                  refine (g2.out _ (by first | exact HBW1.out | exact HBW1.out.alloc HSr.out _)).mono ?_
                  rintro e w2 ⟨rfl, rfl⟩
                  go_wp2_with fail
                  refine Cl.out.mono ?_
                  rintro e w3 ⟨rfl, hB3⟩
                  have hx3 := (insAt_new wr ⟨cc, x1, x2, x0⟩).later hB3
                  have hz3 := (HZr.out.later ((Below.refl _ _).alloc (Nat.le_refl _) (objN ⟨cc, x1, x2, x0⟩))).later hB3
                  obtain ⟨⟨q0, q1, q2, q3⟩, ⟨r0, r1, r2, r3⟩, hql⟩ := hx3.cells
                  obtain ⟨⟨t0, t1, t2, t3⟩, ⟨u0, u1, u2, u3⟩, hzl⟩ := hz3.cells
                  have HB3 := Lib.hid ((HBr.out.alloc HSr4.out _).trans (hB3.mono (by have := HSr4.out; simp; omega)))
                  have HZ3 := Lib.hid hz3
                  clear hB3 hx3 hz3 hql hzl
                  by_cases he : lineL ⟨cc, x1, x2, x0⟩ = s.data.toList
                  · have hA4 := HA3.out
                    rw [if_pos he] at hA4
                    have HF := Lib.hid hA4.symm
                    have he2 := eq_line he
                    have HBL2 := Lib.hid (HBt.out.trans ((HB4.out.trans (HB3.out.mono HS4.out)).mono HS1.out))
                    clear hA4 he
                    go_wp2_with fail
                    refine bodyPost_ret (v := .tuple #[aggN ⟨cc, x1, x2, x0⟩, .bool true]) (by simp [results, Tryd.results21, go_sem, *]) rfl ⟨by rw [HF.out]; rfl, by exact belowSet4 HBL2.out _ _ _ _⟩
                  · have hA4 := HA3.out
                    rw [if_neg he] at hA4
                    have HF := Lib.hid hA4
                    have he2 := ne_line he
                    clear hA4 he
                    go_wp2_with fail
                    go_roundg g
                    case measure => omega
                    case rel => exact ⟨k + 1, by omega, by go_num, HF.out, HZ3.out, HB3.out⟩
end Go.Proofs.YtckbcmoanadckaaDoor
