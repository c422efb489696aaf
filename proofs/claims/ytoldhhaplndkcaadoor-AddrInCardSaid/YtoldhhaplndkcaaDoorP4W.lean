/- addr.Parse4, walked. -/
import Derived.Test.YtoldhhaplndkcaaDoorP4
namespace Go.Proofs.YtoldhhaplndkcaaDoor
open Go.RowKit Go.Shelf Go.Deep
set_option linter.unusedVariables false
set_option linter.unusedSimpArgs false

abbrev zero4 : List Nat := [0, 0, 0, 0]
theorem max_later {w W : World} {m : Int} (hm : w.cell? ⟨3, 0, none⟩ = some (.int .i64 m)) (hB : Below w.heap.size w W) : W.cell? ⟨3, 0, none⟩ = some (.int .i64 m) :=
  (hB.cell (p := ⟨3, 0, none⟩) (World.block_lt_of_cell? w _ hm)).trans hm
theorem pad_set (us : List Nat) (x k : Nat) (h : us.length = k) (hk : k < 4) : (us ++ List.replicate (4 - k) 0).set k x = (us ++ [x]) ++ List.replicate (4 - (k + 1)) 0 := by
  subst h
  rw [show 4 - us.length = (4 - (us.length + 1)) + 1 from by omega, List.replicate_succ, List.set_append_right _ _ (Nat.le_refl _), Nat.sub_self, List.set_cons_zero, List.append_assoc]
  rfl
theorem p4_parts {s : List UInt8} {L : List ByteArray} (hL : ls L = splitL 46 s) (h : L.length = 4) : p4L s = mapO (numD 255) (ls L) := by
  unfold p4L
  rw [← hL, ls_length, if_pos h]
theorem p4_not {s : List UInt8} {L : List ByteArray} (hL : ls L = splitL 46 s) (h : ¬ L.length = 4) : p4L s = none := by
  unfold p4L
  rw [← hL, ls_length, if_neg h]
theorem mapO_bad {f : List UInt8 → Option Nat} {x : List UInt8} (xs : List (List UInt8)) (h : f x = none) : mapO f (x :: xs) = none := by
  unfold mapO
  rw [h]
theorem mapO_good {f : List UInt8 → Option Nat} {x : List UInt8} {u : Nat} (xs : List (List UInt8)) (us : List Nat) (h : f x = some u) : (mapO f (x :: xs)).map (us ++ ·) = (mapO f xs).map ((us ++ [u]) ++ ·) := by
  rw [mapO.eq_def]
  simp only [h]
  cases mapO f xs with
  | none => rfl
  | some ys => simp
set_option maxRecDepth 100000 in
set_option maxHeartbeats 3200000 in
theorem parse4_any (s : ByteArray) (m : Int) (w : World) (hs : s.size ≤ 1048576) (hm : w.cell? ⟨3, 0, none⟩ = some (.int .i64 m)) (hv : ErrVars w) (ht : Tab10 w) : Calls Tryd.prog 9 #[.string s] w fun e w' => e = .returned (.tuple #[agg4 ((p4L s.data.toList).getD zero4), .int .i64 (err60 (p4L s.data.toList))]) ∧ Below w.heap.size w w' := by
  obtain ⟨R, hR⟩ : ∃ R, p4L s.data.toList = R := ⟨_, rfl⟩
  have HR := Lib.hid hR
  have hB0 : Below w.heap.size w ((w.alloc (.cells (zero4.map c8).toArray 22)).alloc (.cells (zero4.map c8).toArray 22)) := ((Below.refl _ w).alloc (Nat.le_refl _) _).alloc (by simp) _
  have cs := psplit_any s 46 m _ hs (max_later hm hB0)
  have Cs := Lib.hid cs
  have HV := Lib.hid hv
  have HT := Lib.hid ht
  have HB0 := Lib.hid hB0
  have hr0 := (ArrAt.new 22 w zero4).old (.cells (zero4.map c8).toArray 22)
  have hr1 := ArrAt.new 22 (w.alloc (.cells (zero4.map c8).toArray 22)) zero4
  rw [World.size_alloc] at hr1
  have Hr0 := Lib.hid hr0
  have Hr1 := Lib.hid hr1
  rw [hR]
  clear hR cs hv ht hB0 hr0 hr1 hm
  go_enter Tryd.func9, Tryd.ntmps9
  go_wp2_with fail
  refine Cs.out.mono ?_
  rintro e w1 ⟨v1, rfl, L, hL, hL9, hLs, hown, hB1⟩
  obtain ⟨A1, c1, rfl, hRL⟩ := OwnG.rs encB_ok hown
  have HOL := Lib.hid (show OwnG 1 encB 9 w1 (w.heap.size + 2) (.slice A1 L.length c1) L from by simpa using hown)
  have hr0 := Hr0.out.later hB1
  have hr1 := Hr1.out.later hB1
  have hB1' := HB0.out.trans (hB1.mono HB0.out.size)
  have HB1 := Lib.hid hB1'
  have HS1 := Lib.hid hB1'.size
  have HL := Lib.hid hL
  have HLs := Lib.hid hLs
  have n9 : L.length ≤ 1048577 := by omega
  clear hB1 hB1' hRL hL hLs hL9 hown
  by_cases h4 : L.length = 4
  case neg =>
    have d1 : ((L.length : Int) != 4) = true := by rw [bne_iff_ne]; omega
    have hn := p4_not HL.out h4
    have HF := Lib.hid (HR.out.symm.trans hn)
    have f0 : w1.cell? ⟨w.heap.size, 0, none⟩ = some (.int .u8 0) := hr0.cell (i := 0) rfl
    have f1 : w1.cell? ⟨w.heap.size, 1, none⟩ = some (.int .u8 0) := hr0.cell (i := 1) rfl
    have f2 : w1.cell? ⟨w.heap.size, 2, none⟩ = some (.int .u8 0) := hr0.cell (i := 2) rfl
    have f3 : w1.cell? ⟨w.heap.size, 3, none⟩ = some (.int .u8 0) := hr0.cell (i := 3) rfl
    have g0 : w1.cell? ⟨w.heap.size + 1, 0, none⟩ = some (.int .u8 0) := hr1.cell (i := 0) rfl
    have g1 : w1.cell? ⟨w.heap.size + 1, 1, none⟩ = some (.int .u8 0) := hr1.cell (i := 1) rfl
    have g2 : w1.cell? ⟨w.heap.size + 1, 2, none⟩ = some (.int .u8 0) := hr1.cell (i := 2) rfl
    have g3 : w1.cell? ⟨w.heap.size + 1, 3, none⟩ = some (.int .u8 0) := hr1.cell (i := 3) rfl
    have q0 := hr0.frozen 0
    have q1 := hr0.frozen 1
    have q2 := hr0.frozen 2
    have q3 := hr0.frozen 3
    clear hr0 hr1 hn h4
    go_wp2_with fail
    refine bodyPost_ret (v := .tuple #[.agg #[.int .u8 0, .int .u8 0, .int .u8 0, .int .u8 0], .int .i64 60]) (by simp [results, Tryd.results9, go_sem, *]) rfl ⟨by rw [HF.out]; rfl, ?_⟩
    exact (((HB1.out.setCell (p := ⟨w.heap.size, 0, none⟩) (Nat.le_refl _) _).setCell (p := ⟨w.heap.size, 1, none⟩) (Nat.le_refl _) _).setCell (p := ⟨w.heap.size, 2, none⟩) (Nat.le_refl _) _).setCell (p := ⟨w.heap.size, 3, none⟩) (Nat.le_refl _) _
  case pos =>
    have d1 : ((L.length : Int) != 4) = false := by simp; omega
    have hp := p4_parts HL.out h4
    have HM := Lib.hid (hp.symm.trans HR.out)
    have H4 := Lib.hid h4
    have Hr0 := Lib.hid hr0
    have Hr1 := Lib.hid hr1
    clear hp h4 hr0 hr1
    go_wp2_with fail
    go_loopg [6, 7, 8, 9, 18] 4 (fun g s6 s7 s8 s9 s18 wr => ∃ (k : Nat) (us : List Nat), k + g = 4 ∧ s18 = .int .i64 k ∧ Aside (us.length = k) ∧ Aside ((mapO (numD 255) (ls (L.drop k))).map (us ++ ·) = R) ∧ ArrAt 22 wr w.heap.size zero4 ∧ ArrAt 22 wr (w.heap.size + 1) (us ++ List.replicate (4 - k) 0) ∧ Below w.heap.size w wr ∧ OwnG 1 encB 9 wr (w.heap.size + 2) (.slice A1 L.length c1) L)
    case atStart => exact ⟨0, [], by omega, rfl, by
        show _ = _
        rfl, by
        show _ = _
        rw [List.drop_zero, HM.out]
        cases R <;> simp, Hr0.out, Hr1.out, HB1.out, HOL.out⟩
    case round =>
      obtain ⟨k, us, hk, rfl, hus, hA, h0, h1, hB, hO⟩ := hrel
      have k0 : (0 : Int) ≤ (k : Int) := by omega
      have HB := Lib.hid hB
      have HOw := Lib.hid hO
      have Hus := Lib.hid hus.out
      have HA := Lib.hid hA.out
      have H0 := Lib.hid h0
      have H1 := Lib.hid h1
      clear hB hO hus hA h0 h1
      cases gk with
      | zero =>
        have k1 : ¬ (k : Int) < (L.length : Int) := by have := H4.out; omega
        have hk4 : k = 4 := by omega
        have hR := HA.out
        rw [List.drop_of_length_le (by rw [H4.out]; omega)] at hR
        have hR : R = some us := by rw [← hR]; simp [mapO]
        obtain ⟨a, b, c, d, rfl⟩ := four_of (Hus.out.trans hk4)
        subst hk4
        have HF := Lib.hid hR
        have f0 : wr.cell? ⟨w.heap.size, 0, none⟩ = some (.int .u8 0) := H0.out.cell (i := 0) rfl
        have f1 : wr.cell? ⟨w.heap.size, 1, none⟩ = some (.int .u8 0) := H0.out.cell (i := 1) rfl
        have f2 : wr.cell? ⟨w.heap.size, 2, none⟩ = some (.int .u8 0) := H0.out.cell (i := 2) rfl
        have f3 : wr.cell? ⟨w.heap.size, 3, none⟩ = some (.int .u8 0) := H0.out.cell (i := 3) rfl
        have q0 := H0.out.frozen 0
        have q1 := H0.out.frozen 1
        have q2 := H0.out.frozen 2
        have q3 := H0.out.frozen 3
        have g0 : wr.cell? ⟨w.heap.size + 1, 0, none⟩ = some (.int .u8 a) := H1.out.cell (i := 0) rfl
        have g1 : wr.cell? ⟨w.heap.size + 1, 1, none⟩ = some (.int .u8 b) := H1.out.cell (i := 1) rfl
        have g2 : wr.cell? ⟨w.heap.size + 1, 2, none⟩ = some (.int .u8 c) := H1.out.cell (i := 2) rfl
        have g3 : wr.cell? ⟨w.heap.size + 1, 3, none⟩ = some (.int .u8 d) := H1.out.cell (i := 3) rfl
        clear hR
        go_wp2_with fail
        refine bodyPost_ret (v := .tuple #[.agg #[.int .u8 a, .int .u8 b, .int .u8 c, .int .u8 d], .int .i64 0]) (by simp [results, Tryd.results9, go_sem, *]) rfl ⟨by rw [HF.out]; rfl, ?_⟩
        exact (((HB.out.setCell (p := ⟨w.heap.size, 0, none⟩) (Nat.le_refl _) _).setCell (p := ⟨w.heap.size, 1, none⟩) (Nat.le_refl _) _).setCell (p := ⟨w.heap.size, 2, none⟩) (Nat.le_refl _) _).setCell (p := ⟨w.heap.size, 3, none⟩) (Nat.le_refl _) _
      | succ g =>
        have k1 : (k : Int) < (L.length : Int) := by have := H4.out; omega
        have hkl : k < L.length := by omega
        have k4 : (k : Int) < 4 := by omega
        obtain ⟨bb, o, hAe, -⟩ := own_rs encB_ok HOw.out (by omega)
        subst hAe
        obtain ⟨x, hx⟩ : ∃ x, L[k]? = some x := ⟨_, List.getElem?_eq_getElem hkl⟩
        have hcell := (own_rs encB_ok HOw.out).cell encB_ok hx (j := 0) rfl
        simp only [Nat.mul_one, Nat.add_zero] at hcell
        have hdr : L.drop k = x :: L.drop (k + 1) := by
          rw [List.drop_eq_getElem_cons hkl]
          rw [List.getElem?_eq_getElem hkl] at hx
          rw [Option.some.inj hx]
        have hA2 := HA.out
        rw [hdr] at hA2
        have HA2 := Lib.hid (show (mapO (numD 255) (x.data.toList :: ls (L.drop (k + 1)))).map (us ++ ·) = R from hA2)
        have cp := pu8_any x wr (by have := HLs.out x (List.mem_of_getElem? hx); omega) (HV.out.later HB.out)
        have Cp := Lib.hid cp
        clear hA2 hdr hx hkl cp
        go_wp2_with fail
        refine Cp.out.mono ?_
        rintro e w2 ⟨hend, hB2⟩
        have hBt := HB.out.trans (hB2.mono HB.out.size)
        have h0 := H0.out.later hB2
        have h1 := H1.out.later hB2
        have hOw2 := own_below HOw.out hB2
        have HBt := Lib.hid hBt
        have H0' := Lib.hid h0
        have H1' := Lib.hid h1
        have HOw2 := Lib.hid hOw2
        clear hB2 hBt h0 h1 hOw2
        rcases hend with ⟨u, rfl, hu, hd⟩ | ⟨u, t, p, rfl, hu, hd⟩
        · have cf := fmtu_any u w2 (by omega) (HT.out.later HBt.out)
          have Cf := Lib.hid cf
          clear cf
          rcases hd with ⟨hd, hne⟩ | ⟨hd, heq⟩
          · have hR := HA2.out
            rw [mapO_bad _ hd] at hR
            have HF := Lib.hid (show R = none from hR.symm)
            have e1 : ((bs (dcl u)).toList == x.toList) = false := by
              rw [beq_eq_false_iff_ne, ne_eq, ByteArray.toList_eq, ByteArray.toList_eq, bs_list]
              exact hne
            clear hR hd hne
            go_wp2_with fail
            refine Cf.out.mono ?_
            rintro e w3 ⟨rfl, hB3⟩
            have h0 := H0'.out.later hB3
            have HB3 := Lib.hid (HBt.out.trans (hB3.mono HBt.out.size))
            have f0 : w3.cell? ⟨w.heap.size, 0, none⟩ = some (.int .u8 0) := h0.cell (i := 0) rfl
            have f1 : w3.cell? ⟨w.heap.size, 1, none⟩ = some (.int .u8 0) := h0.cell (i := 1) rfl
            have f2 : w3.cell? ⟨w.heap.size, 2, none⟩ = some (.int .u8 0) := h0.cell (i := 2) rfl
            have f3 : w3.cell? ⟨w.heap.size, 3, none⟩ = some (.int .u8 0) := h0.cell (i := 3) rfl
            have q0 := h0.frozen 0
            have q1 := h0.frozen 1
            have q2 := h0.frozen 2
            have q3 := h0.frozen 3
            clear hB3 h0
            go_wp2_with fail
            refine bodyPost_ret (v := .tuple #[.agg #[.int .u8 0, .int .u8 0, .int .u8 0, .int .u8 0], .int .i64 60]) (by simp [results, Tryd.results9, go_sem, *]) rfl ⟨by rw [HF.out]; rfl, ?_⟩
            exact (((HB3.out.setCell (p := ⟨w.heap.size, 0, none⟩) (Nat.le_refl _) _).setCell (p := ⟨w.heap.size, 1, none⟩) (Nat.le_refl _) _).setCell (p := ⟨w.heap.size, 2, none⟩) (Nat.le_refl _) _).setCell (p := ⟨w.heap.size, 3, none⟩) (Nat.le_refl _) _
          · have hR := HA2.out
            rw [mapO_good _ us hd] at hR
            have HF := Lib.hid hR
            have e1 : ((bs (dcl u)).toList == x.toList) = true := by
              rw [beq_iff_eq, ByteArray.toList_eq, ByteArray.toList_eq, bs_list]
              exact heq
            have w8 : IntKind.u8.wrap (u : Int) = u := IntWalk.u8_in _ (by omega)
            clear hR hd heq
            go_wp2_with fail
            refine Cf.out.mono ?_
            rintro e w3 ⟨rfl, hB3⟩
            have h0 := H0'.out.later hB3
            have h1 := H1'.out.later hB3
            have HB3 := Lib.hid (HBt.out.trans (hB3.mono HBt.out.size))
            have HOw3 := Lib.hid (own_below HOw2.out hB3)
            have hk2 : (us ++ List.replicate (4 - k) 0)[k]? = some 0 := by
              rw [List.getElem?_append_right (by have := Hus.out; omega), List.getElem?_replicate, if_pos (by have := Hus.out; omega)]
            have c0 := h1.cell hk2
            have z0 := h1.frozen k
            have h1s := h1.set u (i := k) (by rw [List.length_append, List.length_replicate, Hus.out]; omega)
            rw [pad_set us u k Hus.out (by omega)] at h1s
            have H1s := Lib.hid h1s
            have H0s := Lib.hid (h0.other (c := w.heap.size + 1) (i := k) (.int .u8 (u : Int)) (by omega))
            clear hB3 h0 h1 hk2 h1s
            go_wp2_with fail
            go_roundg g
            case measure => omega
            case rel => exact ⟨k + 1, us ++ [u], by omega, by go_num, by
                show _ = _
                rw [List.length_append, Hus.out]
                rfl, HF.out, H0s.out, H1s.out, HB3.out.setCell (p := ⟨w.heap.size + 1, k, none⟩) (by show _ ≤ w.heap.size + 1; omega) _, own_later HOw3.out fun q e => heap_setCell_other _ ⟨w.heap.size + 1, k, none⟩ q _ (by have := (own_lt HOw3.out e).1; show q ≠ w.heap.size + 1; omega)⟩
        · have hR := HA2.out
          rw [mapO_bad _ hd] at hR
          have HF := Lib.hid (show R = none from hR.symm)
          have f0 : w2.cell? ⟨w.heap.size, 0, none⟩ = some (.int .u8 0) := H0'.out.cell (i := 0) rfl
          have f1 : w2.cell? ⟨w.heap.size, 1, none⟩ = some (.int .u8 0) := H0'.out.cell (i := 1) rfl
          have f2 : w2.cell? ⟨w.heap.size, 2, none⟩ = some (.int .u8 0) := H0'.out.cell (i := 2) rfl
          have f3 : w2.cell? ⟨w.heap.size, 3, none⟩ = some (.int .u8 0) := H0'.out.cell (i := 3) rfl
          have q0 := H0'.out.frozen 0
          have q1 := H0'.out.frozen 1
          have q2 := H0'.out.frozen 2
          have q3 := H0'.out.frozen 3
          clear hR hd
          go_wp2_with fail
          refine bodyPost_ret (v := .tuple #[.agg #[.int .u8 0, .int .u8 0, .int .u8 0, .int .u8 0], .int .i64 60]) (by simp [results, Tryd.results9, go_sem, *]) rfl ⟨by rw [HF.out]; rfl, ?_⟩
          exact (((HBt.out.setCell (p := ⟨w.heap.size, 0, none⟩) (Nat.le_refl _) _).setCell (p := ⟨w.heap.size, 1, none⟩) (Nat.le_refl _) _).setCell (p := ⟨w.heap.size, 2, none⟩) (Nat.le_refl _) _).setCell (p := ⟨w.heap.size, 3, none⟩) (Nat.le_refl _) _
end Go.Proofs.YtoldhhaplndkcaaDoor
