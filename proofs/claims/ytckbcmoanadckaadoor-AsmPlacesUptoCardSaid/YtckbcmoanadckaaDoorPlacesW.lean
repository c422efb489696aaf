/- riddlelaw3.AsmPlaces: it answers true. -/
import Derived.Test.YtckbcmoanadckaaDoorPlacesL
import Derived.Test.YtckbcmoanadckaaDoorReadW
import Derived.Test.YtckbcmoanadckaaDoorInsns
namespace Go.Proofs.YtckbcmoanadckaaDoor
open Go.RowKit Go.Shelf Go.Deep
set_option linter.unusedVariables false
set_option linter.unusedSimpArgs false

theorem print_small2 {ps : List Ins} (h : ps.length ≤ 200) : printT ps = printL ps ∧ printE ps = 0 := by
  unfold printT printE
  rw [if_neg (by omega), if_neg (by omega)]
  exact ⟨rfl, rfl⟩
set_option maxRecDepth 100000 in
set_option maxHeartbeats 3200000 in
theorem places_law (A : Option Addr) (c : Nat) (ps : List Ins) (s : ByteArray) (A2 : Option Addr) (c2 : Nat) (qs : List Ins) (m : Int) (w : World) (hA : Rs encN w A ps) (ho : ∀ i ∈ ps, InsOk i) (hn : A = none → c = 0) (hc : ps.length ≤ c) (hr : c * 8 ≤ 140737488351232)
    (hs : s.size ≤ 1048576) (hA2 : Rs encN w A2 qs) (ho2 : ∀ i ∈ qs, InsOk i) (hn2 : A2 = none → c2 = 0) (hc2 : qs.length ≤ c2) (hr2 : c2 * 8 ≤ 140737488351232) (hm : w.cell? ⟨0, 0, none⟩ = some (.int .i64 m)) (ht : Tab10 w) :
    Calls Tryd.prog 8 #[.slice A ps.length c, .string s, .slice A2 qs.length c2] w fun e w' => e = .returned (.bool true) ∧ Below w.heap.size w w' := by
  have HT := Lib.hid ht
  have Hm := Lib.hid hm
  have HA := Lib.hid hA
  have Ho := Lib.hid ho
  have HA2 := Lib.hid hA2
  have Ho2 := Lib.hid ho2
  have aw : ∀ W, Below w.heap.size w W → Calls Tryd.prog 11 #[] W fun e w' => e = .returned (.bool true) ∧ Below W.heap.size W w' := fun W hW => awake_any m W (max_later Hm.out hW) (HT.out.later hW)
  have AW := Lib.hid aw
  have cr := rread_any s w (by omega)
  clear aw hm ht hA ho hA2 ho2
  by_cases hbig : 200 < ps.length
  · have b1 : (ps.length : Int) > 200 := by omega
    have ca := AW.out w (Below.refl _ _)
    have Ca := Lib.hid ca
    clear ca hbig hn hc hr hn2 hc2 hr2 cr
    go_enter Tryd.func8, Tryd.ntmps8
    go_wp2_with fail
    refine Ca.out.mono ?_
    rintro e w2 ⟨rfl, hB⟩
    have HB := Lib.hid hB
    clear hB
    go_wp2_with fail
    go_ret
    exact ⟨rfl, HB.out⟩
  have b1 : ¬ (ps.length : Int) > 200 := by omega
  by_cases hbig2 : 200 < qs.length
  · have b2 : (qs.length : Int) > 200 := by omega
    have ca := AW.out w (Below.refl _ _)
    have Ca := Lib.hid ca
    clear ca hbig hbig2 hn hc hr hn2 hc2 hr2 cr
    go_enter Tryd.func8, Tryd.ntmps8
    go_wp2_with fail
    refine Ca.out.mono ?_
    rintro e w2 ⟨rfl, hB⟩
    have HB := Lib.hid hB
    clear hB
    go_wp2_with fail
    go_ret
    exact ⟨rfl, HB.out⟩
  have b2 : ¬ (qs.length : Int) > 200 := by omega
  have hl : ps.length ≤ 200 := by omega
  have hl2 : qs.length ≤ 200 := by omega
  clear hbig hbig2
  cases hrd : rreadL s.data.toList with
  | some x =>
    rw [hrd] at cr
    have Cr := Lib.hid cr
    clear cr hrd hn hc hr hn2 hc2 hr2
    go_enter Tryd.func8, Tryd.ntmps8
    go_wp2_with fail
    refine Cr.out.mono ?_
    rintro e w2 ⟨rfl, hB⟩
    have HB := Lib.hid (hB.alloc hB.size (objN x))
    have ca := AW.out _ HB.out
    have Ca := Lib.hid ca
    clear hB ca
    go_wp2_with fail
    refine Ca.out.mono ?_
    rintro e w3 ⟨rfl, hB3⟩
    have HF := Lib.hid (HB.out.trans (hB3.mono HB.out.size))
    clear hB3
    go_wp2_with fail
    go_ret
    exact ⟨rfl, HF.out⟩
  | none =>
    rw [hrd] at cr
    have Hbad := Lib.hid (show readL (rowsN 256) s.data.toList = none from by rw [← rread_eq]; exact hrd)
    have Cr := Lib.hid cr
    have cc := fun W hW => copy_any A c ps W ((HA.out).later hW) (by omega) hn
    have Cc := Lib.hid cc
    have cc2 := fun W hW => copy_any A2 c2 qs W ((HA2.out).later hW) (by omega) hn2
    have Cc2 := Lib.hid cc2
    have Hl := Lib.hid hl
    obtain ⟨hp1, hp2⟩ := print_small2 hl
    obtain ⟨hq1, hq2⟩ := print_small2 hl2
    have HP1 := Lib.hid hp1
    have HP2 := Lib.hid hp2
    have HQ1 := Lib.hid hq1
    have HQ2 := Lib.hid hq2
    have hpl := printL_len ps
    have hpl2 := printL_len qs
    have hpl9 : (printL ps).length ≤ 400200 := by
      have : 2001 * ps.length ≤ 2001 * 200 := Nat.mul_le_mul_left _ hl
      omega
    have hpl8 : (printL qs).length ≤ 400200 := by
      have : 2001 * qs.length ≤ 2001 * 200 := Nat.mul_le_mul_left _ hl2
      omega
    obtain ⟨T, hT⟩ : ∃ T, bs (printL ps) = T := ⟨_, rfl⟩
    have hTs : T.size = (printL ps).length := by rw [← hT, bs_size]
    obtain ⟨U, hU⟩ : ∃ U, bs (printL qs) = U := ⟨_, rfl⟩
    have hUs : U.size = (printL qs).length := by rw [← hU, bs_size]
    have HTT := Lib.hid hT
    have HTs := Lib.hid hTs
    have HUU := Lib.hid hU
    have HUs := Lib.hid hUs
    have hT9 : T.size ≤ 400200 := by omega
    have hU9 : U.size ≤ 400200 := by omega
    have n9 : (ps.length : Int) ≤ 200 := by omega
    have hs0 : (s.size : Int) ≤ 1048576 := by omega
    clear cr hrd hn hc hr hn2 hc2 hr2 cc cc2 hp1 hp2 hq1 hq2 hpl hpl2 hpl9 hpl8 hT hTs hU hUs
    go_enter Tryd.func8, Tryd.ntmps8
    go_wp2_with fail
    refine Cr.out.mono ?_
    rintro e w2 ⟨rfl, hB⟩
    have HB0 := Lib.hid (hB.alloc hB.size (objN zeroI))
    clear hB
    go_wp2_with fail
    go_loopg [9] s.size (fun g s9 wr => ∃ k : Nat, k + g = s.size ∧ s9 = .int .i64 k ∧ Aside ((10 : UInt8) ∉ s.data.toList.take k) ∧ Below w.heap.size w wr)
    case atStart => exact ⟨0, by omega, rfl, by
        show (10 : UInt8) ∉ _
        simp, HB0.out⟩
    case round =>
      obtain ⟨k, hk, rfl, h10, hB⟩ := hrel
      have k0 : (0 : Int) ≤ (k : Int) := by omega
      have HB := Lib.hid hB
      have HS := Lib.hid hB.size
      clear hB
      cases gk with
      | succ g =>
        have k1 : (k : Int) < (s.size : Int) := by omega
        have hlt : k < s.size := by omega
        obtain ⟨b, hb⟩ : ∃ b, s[k] = b := ⟨_, rfl⟩
        have hsn : s.data.toList.take (k + 1) = s.data.toList.take k ++ [b] := by
          rw [List.take_succ_eq_append_getElem (by simpa using hlt), ← hb]
          rfl
        have HSn := Lib.hid hsn
        clear hsn
        by_cases hb10 : b = 10
        · subst hb10
          have d1 : (((10 : UInt8).toNat : Int) == 10) = true := rfl
          have ca := AW.out wr HB.out
          have Ca := Lib.hid ca
          clear ca h10
          go_wp2_with fail
          refine Ca.out.mono ?_
          rintro e w8 ⟨rfl, hB8⟩
          have HF := Lib.hid (HB.out.trans (hB8.mono HB.out.size))
          clear hB8
          go_wp2_with fail
          go_ret
          exact ⟨rfl, HF.out⟩
        · have d1 : ((b.toNat : Int) == 10) = false := by
            rw [beq_eq_false_iff_ne]
            intro h
            exact hb10 (UInt8.toNat_inj.1 (by show b.toNat = 10; omega))
          have h11 : (10 : UInt8) ∉ s.data.toList.take (k + 1) := by
            rw [HSn.out]
            intro h
            rcases List.mem_append.1 h with h | h
            · exact h10.out h
            · exact hb10 (List.mem_singleton.1 h).symm
          have H11 := Lib.hid h11
          clear h11 h10 hb10
          go_wp2_with fail
          go_roundg g
          case measure => omega
          case rel => exact ⟨k + 1, by omega, by go_num, H11.out, HB.out⟩
      | zero =>
        have k1 : ¬ (k : Int) < (s.size : Int) := by omega
        have hno : (10 : UInt8) ∉ s.data.toList := by
          have h := h10.out
          rw [List.take_of_length_le (by rw [size_list]; omega)] at h
          exact h
        have Hno := Lib.hid hno
        have c1 := Cc.out wr HB.out
        have C1 := Lib.hid c1
        clear hno h10 c1
        go_wp2_with fail
        refine C1.out.mono ?_
        rintro e w3 ⟨g, c3, rfl, hown3, hB3⟩
        have hB3 := HB.out.trans (hB3.mono HS.out)
        have cp := print_any (some ⟨g, 0, none⟩) c3 ps w3 (OwnG.is encN_ok hown3) Ho.out (HT.out.later hB3) (by omega)
        rw [HP1.out, HP2.out, HTT.out] at cp
        have Cp := Lib.hid cp
        have HB3 := Lib.hid hB3
        clear cp hown3 hB3
        go_wp2_with fail
        refine Cp.out.mono ?_
        rintro e w4 ⟨rfl, hB4⟩
        have hB4 := HB3.out.trans (hB4.mono HB3.out.size)
        have c2' := Cc2.out w4 hB4
        have C2 := Lib.hid c2'
        have HB4 := Lib.hid hB4
        clear hB4 c2'
        go_wp2_with fail
        refine C2.out.mono ?_
        rintro e w5 ⟨g2, c5, rfl, hown5, hB5⟩
        have hB5 := HB4.out.trans (hB5.mono HB4.out.size)
        have cp := print_any (some ⟨g2, 0, none⟩) c5 qs w5 (OwnG.is encN_ok hown5) Ho2.out (HT.out.later hB5) (by omega)
        rw [HQ1.out, HQ2.out, HUU.out] at cp
        have Cp2 := Lib.hid cp
        have HB5 := Lib.hid hB5
        clear cp hown5 hB5
        go_wp2_with fail
        refine Cp2.out.mono ?_
        rintro e w6 ⟨rfl, hB6⟩
        have hB6 := HB5.out.trans (hB6.mono HB5.out.size)
        have HB6 := Lib.hid hB6
        clear hB6
        by_cases hbig : 1048576 ≤ T.size + s.size + U.size
        · have z1 : decide ((T.size : Int) + (s.size : Int) + (U.size : Int) ≥ 1048576) = true := decide_eq_true (by omega)
          have ca := AW.out w6 HB6.out
          have Ca := Lib.hid ca
          clear ca hbig
          go_wp2_with fail
          refine Ca.out.mono ?_
          rintro e w8 ⟨rfl, hB8⟩
          have HF := Lib.hid (HB6.out.trans (hB8.mono HB6.out.size))
          clear hB8
          go_wp2_with fail
          go_ret
          exact ⟨rfl, HF.out⟩
        · have z1 : decide ((T.size : Int) + (s.size : Int) + (U.size : Int) ≥ 1048576) = false := decide_eq_false (by omega)
          obtain ⟨E1, hE1⟩ : ∃ E, printL ps ++ s.data.toList = E := ⟨_, rfl⟩
          obtain ⟨E2, hE2⟩ : ∃ E, E1 ++ [10] = E := ⟨_, rfl⟩
          obtain ⟨E3, hE3⟩ : ∃ E, E2 ++ printL qs = E := ⟨_, rfl⟩
          have hE1l : E1.length ≤ 1448776 := by rw [← hE1, List.length_append, size_list, ← HTs.out]; omega
          have hE2l : E2.length ≤ 1448777 := by rw [← hE2, List.length_append, List.length_singleton]; omega
          have a1 : ∀ W, (Op.stringOp .add T s).run Tryd.prog W = .ok (.string (bs E1)) W := fun W => by
            have h := add_two (printL ps) s.data.toList E1 (by rw [size_list, ← HTs.out]; omega) hE1 W
            rw [HTT.out] at h
            exact h
          have a2 : ∀ W, (Op.stringOp .add (bs E1) ⟨#[10]⟩).run Tryd.prog W = .ok (.string (bs E2)) W := fun W => add_two E1 [10] _ (by simp only [List.length_cons, List.length_nil]; omega) hE2 W
          have a3 : ∀ W, (Op.stringOp .add (bs E2) U).run Tryd.prog W = .ok (.string (bs E3)) W := fun W => by
            have h := add_two E2 (printL qs) E3 (by rw [← HUs.out]; omega) hE3 W
            rw [HUU.out] at h
            exact h
          have hE3l : E3.length ≤ 1848977 := by rw [← hE3, List.length_append, ← HUs.out]; omega
          have hpb := parse_bad (t := printL qs) Ho.out Hl.out Hno.out Hbad.out (by rw [List.length_append, size_list, ← HTs.out, ← HUs.out]; omega)
          rw [hE1, hE2, hE3] at hpb
          have cr2 := parse_any (bs E3) m w6 (by rw [bs_size]; omega) (max_later Hm.out HB6.out) (HT.out.later HB6.out)
          rw [bs_list, hpb] at cr2
          have Cr2 := Lib.hid cr2
          have hat : (((ps.length + 1 : Nat) : Int) == (ps.length : Int) + 1) = true := by simp
          clear hE1 hE2 hE3 hE1l hE2l hE3l hpb cr2 hbig
          go_wp2_with fail
          refine Cr2.out.mono ?_
          rintro e w7 ⟨v, rfl, hown7, hB7⟩
          have hB7 := HB6.out.trans (hB7.mono HB6.out.size)
          obtain ⟨A7, c7, rfl, hR7⟩ := OwnG.rs encN_ok hown7
          have ca := AW.out w7 hB7
          have Ca := Lib.hid ca
          have HB7 := Lib.hid hB7
          clear ca hB7 hown7 hR7
          go_wp2_with fail
          refine Ca.out.mono ?_
          rintro e w8 ⟨rfl, hB8⟩
          have HF := Lib.hid (HB7.out.trans (hB8.mono HB7.out.size))
          clear hB8
          go_wp2_with fail
          go_ret
          exact ⟨rfl, HF.out⟩
end Go.Proofs.YtckbcmoanadckaaDoor
