/- addr.Parse6. -/
import Derived.Test.YtoldhhaplndkcaaDoorP6R
namespace Go.Proofs.YtoldhhaplndkcaaDoor
open Go.RowKit Go.Shelf Go.Deep
set_option linter.unusedVariables false
set_option linter.unusedSimpArgs false

theorem readG_len {l : List UInt8} {gs : List Nat} (h : readG l = some gs) : gs.length ≤ l.length + 1 := by
  unfold readG at h
  split at h
  · cases h; exact Nat.zero_le _
  · rw [mapO_len _ _ h]
    exact splitL_len 58 l
set_option maxRecDepth 100000 in
set_option maxHeartbeats 6400000 in
theorem parse6_any (s : ByteArray) (m : Int) (w : World) (hs : s.size ≤ 1048576) (hm : w.cell? ⟨3, 0, none⟩ = some (.int .i64 m)) : Calls Tryd.prog 14 #[.string s] w fun e w' => e = .returned (.tuple #[agg16 (bytesG ((p6L s.data.toList).getD zero8)), .int .i64 (err60 (p6L s.data.toList))]) ∧ Below w.heap.size w w' := by
  obtain ⟨R, hR⟩ : ∃ R, p6L s.data.toList = R := ⟨_, rfl⟩
  rw [hR]
  have HR := Lib.hid hR
  have Hm := Lib.hid hm
  have cg := fun W hW => Tryd.strings_Cut s ⟨#[58, 58]⟩ m W (by omega) (max_later hm hW)
  obtain ⟨H, hH0⟩ : ∃ H : ByteArray, (⟨(Lib.cut s.data.toList (⟨#[58, 58]⟩ : ByteArray).data.toList).1.toArray⟩ : ByteArray) = H := ⟨_, rfl⟩
  obtain ⟨T, hT0⟩ : ∃ T : ByteArray, (⟨(Lib.cut s.data.toList (⟨#[58, 58]⟩ : ByteArray).data.toList).2.1.toArray⟩ : ByteArray) = T := ⟨_, rfl⟩
  obtain ⟨f, hf⟩ : ∃ f, (Lib.cut s.data.toList [58, 58]).2.2 = f := ⟨_, rfl⟩
  have hf0 : (Lib.cut s.data.toList (⟨#[58, 58]⟩ : ByteArray).data.toList).2.2 = f := hf
  simp only [hH0, hT0, hf0] at cg
  have hH : H.data.toList = (Lib.cut s.data.toList [58, 58]).1 := by rw [← hH0]
  have hT : T.data.toList = (Lib.cut s.data.toList [58, 58]).2.1 := by rw [← hT0]
  obtain ⟨H', T', f', q1, q2, q3, q4, q5, q6⟩ := cut_cases s
  have hHs2 : H.size ≤ 1048576 := by rw [← size_list, hH, ← q1, size_list]; omega
  have hTs2 : T.size ≤ 1048576 := by rw [← size_list, hT, ← q2, size_list]; omega
  have HH := Lib.hid hH
  have HT := Lib.hid hT
  have Hf := Lib.hid hf
  have hB00 : Below w.heap.size w (w.alloc (.cells (zero16.map c8).toArray 29)) := (Below.refl _ w).alloc (Nat.le_refl _) _
  have Cg := Lib.hid (cg _ hB00)
  clear hR hm hH hT hf cg hH0 hT0 hf0 q1 q2 q3 q4 q5 q6 hB00
  go_enter Tryd.func14, Tryd.ntmps14
  go_wp2_with fail
  refine Cg.out.mono ?_
  rintro e w00 ⟨rfl, nn, hw0⟩
  have hB0 : Below w.heap.size w w00 := by rw [hw0]; exact belowN ((Below.refl _ w).alloc (Nat.le_refl _) _) nn
  have hr0 : ArrAt T16 w00 w.heap.size zero16 := by rw [hw0]; exact ArrAt.new T16 w zero16
  have HW2 := Lib.hid (show w.heap.size + 1 ≤ w00.heap.size by rw [hw0]; simp)
  have HB0 := Lib.hid hB0
  have Hr0 := Lib.hid hr0
  clear hB0 hr0 hw0
  have cx := read_any H m w00 hHs2 (max_later Hm.out HB0.out)
  have cy := fun W (hW : Below w00.heap.size w00 W) => read_any T m W hTs2 (max_later Hm.out (HB0.out.trans (hW.mono HB0.out.size)))
  cases hx : readG H.data.toList with
  | none =>
    rw [hx] at cx
    have hn : p6L s.data.toList = none := p6_none (.inl (by rw [← HH.out]; exact hx))
    have HF := Lib.hid (HR.out.symm.trans hn)
    have Cx := Lib.hid cx
    have Cy := Lib.hid (fun W hW => (cy W hW).mono fun e w' h => RdEnd.any enc16_ok h)
    clear cx cy hn hx
    go_wp2_with fail
    refine Cx.out.mono ?_
    rintro e w1 ⟨h1, hB1⟩
    have h1 : e = .returned (.tuple #[.slice none 0 0, .bool false]) := h1
    subst h1
    have HB1 := Lib.hid hB1
    clear hB1
    go_wp2_with fail
    refine (Cy.out _ HB1.out).mono ?_
    rintro e w2 ⟨⟨A, n, c, rfl⟩, hB2⟩
    have hB2 := HB1.out.trans (hB2.mono HB1.out.size)
    have R0 := Lib.hid (Hr0.out.later hB2)
    have HB := Lib.hid (HB0.out.trans (hB2.mono HB0.out.size))
    clear hB2
    have st : (storeA (.pointer (some ⟨w.heap.size, 0, none⟩)) (.agg #[.int .u8 0, .int .u8 0, .int .u8 0, .int .u8 0, .int .u8 0, .int .u8 0, .int .u8 0, .int .u8 0, .int .u8 0, .int .u8 0, .int .u8 0, .int .u8 0, .int .u8 0, .int .u8 0, .int .u8 0, .int .u8 0])).run Tryd.prog w2 = .ok () (w2.setRow w.heap.size (a16 zero16)) := run_storeA (m := zero16) R0.out (by decide) (by decide)
    go_wp2_with fail
    refine bodyPost_ret (results_16 Tryd.results14 _ _ rfl (ArrAt.setRow (m := zero16) R0.out) (by decide)) rfl ⟨by rw [HF.out]; rfl, below_setRow HB.out (Nat.le_refl _) _⟩
  | some x =>
    have hx1 := hx
    rw [hx] at cx
    have Cx := Lib.hid cx
    cases hy : readG T.data.toList with
    | none =>
      have hn : p6L s.data.toList = none := p6_none (.inr (by rw [← HT.out]; exact hy))
      have HF := Lib.hid (HR.out.symm.trans hn)
      rw [hy] at cy
      have Cy := Lib.hid cy
      clear cx cy hn hx hy hx1
      go_wp2_with fail
      refine Cx.out.mono ?_
      rintro e w1 ⟨⟨v, rfl, hO⟩, hB1⟩
      obtain ⟨A, c, rfl, _⟩ := OwnG.rs enc16_ok hO
      have HB1 := Lib.hid hB1
      clear hB1 hO
      go_wp2_with fail
      refine (Cy.out _ HB1.out).mono ?_
      rintro e w2 ⟨h2, hB2⟩
      have h2 : e = .returned (.tuple #[.slice none 0 0, .bool false]) := h2
      subst h2
      have hB2 := HB1.out.trans (hB2.mono HB1.out.size)
      have R0 := Lib.hid (Hr0.out.later hB2)
      have HB := Lib.hid (HB0.out.trans (hB2.mono HB0.out.size))
      clear hB2
      have st : (storeA (.pointer (some ⟨w.heap.size, 0, none⟩)) (.agg #[.int .u8 0, .int .u8 0, .int .u8 0, .int .u8 0, .int .u8 0, .int .u8 0, .int .u8 0, .int .u8 0, .int .u8 0, .int .u8 0, .int .u8 0, .int .u8 0, .int .u8 0, .int .u8 0, .int .u8 0, .int .u8 0])).run Tryd.prog w2 = .ok () (w2.setRow w.heap.size (a16 zero16)) := run_storeA (m := zero16) R0.out (by decide) (by decide)
      go_wp2_with fail
      refine bodyPost_ret (results_16 Tryd.results14 _ _ rfl (ArrAt.setRow (m := zero16) R0.out) (by decide)) rfl ⟨by rw [HF.out]; rfl, below_setRow HB.out (Nat.le_refl _) _⟩
    | some y =>
      have hy1 := hy
      rw [hy] at cy
      have Cy := Lib.hid cy
      have h1 : readG (Lib.cut s.data.toList [58, 58]).1 = some x := by rw [← HH.out]; exact hx1
      have h2 : readG (Lib.cut s.data.toList [58, 58]).2.1 = some y := by rw [← HT.out]; exact hy1
      have hx9 := readG_lt h1
      have hy9 := readG_lt h2
      have hyn : f = false → y = [] := fun e => by
        have := cut_no (l := s.data.toList) (by rw [Hf.out]; exact e)
        rw [this] at h2
        exact read_nil h2
      have XB := Lib.hid (show x.length ≤ 1048577 from Nat.le_trans (readG_len hx1) (by rw [size_list]; omega))
      have YB := Lib.hid (show y.length ≤ 1048577 from Nat.le_trans (readG_len hy1) (by rw [size_list]; omega))
      have HYn := Lib.hid hyn
      have hbad := fun e => p6_bad h1 h2 Hf.out (f := f) e
      have hgood := fun e => p6_good h1 h2 Hf.out (f := f) hyn e
      obtain ⟨bb, hbb⟩ : ∃ b, badG f x y = b := ⟨_, rfl⟩
      rw [hbb] at hbad hgood
      have HBb := Lib.hid hbb
      have HBad := Lib.hid hbad
      have HGood := Lib.hid hgood
      have HX9 := Lib.hid hx9
      have HY9 := Lib.hid hy9
      clear cx cy hx hy hx1 hy1 h1 h2 hyn hbad hgood hbb hx9 hy9
      go_wp2_with fail
      refine Cx.out.mono ?_
      rintro e w1 ⟨⟨vx, rfl, hOx⟩, hB1⟩
      have hOx := own_mono hOx HW2.out
      obtain ⟨Ax, cx, rfl, _⟩ := OwnG.rs enc16_ok (show OwnG 1 enc16 66 w1 (w.heap.size + 1) vx x from hOx)
      have HB1 := Lib.hid hB1
      have HOx := Lib.hid (show OwnG 1 enc16 66 w1 (w.heap.size + 1) (.slice Ax x.length cx) x from hOx)
      clear hB1 hOx
      go_wp2_with fail
      refine (Cy.out _ HB1.out).mono ?_
      rintro e w2 ⟨⟨vy, rfl, hOy⟩, hB2⟩
      have hOx2 : OwnG 1 enc16 66 w2 (w.heap.size + 1) (.slice Ax x.length cx) x := own_below HOx.out hB2
      have hOy := own_mono hOy (Nat.le_trans HW2.out HB1.out.size)
      obtain ⟨Ay, cy, rfl, _⟩ := OwnG.rs enc16_ok (show OwnG 1 enc16 66 w2 (w.heap.size + 1) vy y from hOy)
      have hB2 := HB1.out.trans (hB2.mono HB1.out.size)
      have HOx2 := Lib.hid hOx2
      have HOy2 := Lib.hid (show OwnG 1 enc16 66 w2 (w.heap.size + 1) (.slice Ay y.length cy) y from hOy)
      have R0 := Lib.hid (Hr0.out.later hB2)
      have HB := Lib.hid (HB0.out.trans (hB2.mono HB0.out.size))
      clear hB2 hOx2 hOy
      have xb : x.length ≤ 1048577 := XB.out
      have yb : y.length ≤ 1048577 := YB.out
      obtain ⟨lack, hlack⟩ : ∃ z : Int, 8 - (x.length : Int) - (y.length : Int) = z := ⟨_, rfl⟩
      have HLk := Lib.hid hlack
      have lk1 : -3000000 ≤ lack := by omega
      have lk2 : lack ≤ 8 := by omega
      go_upto_region 5 with fail
      go_cut [55] (fun s55 W => s55 = .bool bb ∧ w2 = W)
      case first =>
        have Hyn := HYn
        cases f with
        | true =>
          by_cases h7 : 7 < x.length + y.length
          · by_cases h8 : x.length + y.length = 8
            · have d1 : ¬ lack < 0 := by omega
              have d2 : (lack == 0) = true := beq_iff_eq.2 (by omega)
              have hb : bb = true := by rw [← HBb.out]; simp [badG]; omega
              subst hb
              clear h7 h8
              go_wp2_with fail
              go_meet
              exact ⟨rfl, rfl⟩
            · have d1 : lack < 0 := by omega
              have hb : bb = true := by rw [← HBb.out]; simp [badG]; omega
              subst hb
              clear h7 h8
              go_wp2_with fail
              go_meet
              exact ⟨rfl, rfl⟩
          · have d1 : ¬ lack < 0 := by omega
            have d2 : (lack == 0) = false := beq_eq_false_iff_ne.2 (by omega)
            have hb : bb = false := by rw [← HBb.out]; simp [badG]; omega
            subst hb
            clear h7
            go_wp2_with fail
            go_meet
            exact ⟨rfl, rfl⟩
        | false =>
          have hy0 : y.length = 0 := by rw [HYn.out rfl]; rfl
          by_cases h8 : x.length = 8
          · have d1 : ¬ lack < 0 := by omega
            have d2 : (lack == 0) = true := beq_iff_eq.2 (by omega)
            have hb : bb = false := by rw [← HBb.out]; simp [badG, h8]
            subst hb
            clear hy0 h8
            go_wp2_with fail
            go_meet
            exact ⟨rfl, rfl⟩
          · by_cases h9 : 8 < x.length
            · have d1 : lack < 0 := by omega
              have hb : bb = true := by rw [← HBb.out]; simp [badG, h8]
              subst hb
              clear hy0 h8 h9
              go_wp2_with fail
              go_meet
              exact ⟨rfl, rfl⟩
            · have d1 : ¬ lack < 0 := by omega
              have d2 : (lack == 0) = false := beq_eq_false_iff_ne.2 (by omega)
              have hb : bb = true := by rw [← HBb.out]; simp [badG, h8]
              subst hb
              clear hy0 h8 h9
              go_wp2_with fail
              go_meet
              exact ⟨rfl, rfl⟩
      case rest =>
        obtain ⟨rfl, rfl⟩ := hcut
        clear hlack
        cases bb with
        | true =>
          have hn := HBad.out rfl
          have HF := Lib.hid (HR.out.symm.trans hn)
          clear hn
          have st : (storeA (.pointer (some ⟨w.heap.size, 0, none⟩)) (.agg #[.int .u8 0, .int .u8 0, .int .u8 0, .int .u8 0, .int .u8 0, .int .u8 0, .int .u8 0, .int .u8 0, .int .u8 0, .int .u8 0, .int .u8 0, .int .u8 0, .int .u8 0, .int .u8 0, .int .u8 0, .int .u8 0])).run Tryd.prog w2 = .ok () (w2.setRow w.heap.size (a16 zero16)) := run_storeA (m := zero16) R0.out (by decide) (by decide)
          go_wp2_with fail
          refine bodyPost_ret (results_16 Tryd.results14 _ _ rfl (ArrAt.setRow (m := zero16) R0.out) (by decide)) rfl ⟨by rw [HF.out]; rfl, below_setRow HB.out (Nat.le_refl _) _⟩
        | false =>
          obtain ⟨hn, h8⟩ := HGood.out rfl
          have HF := Lib.hid (HR.out.symm.trans hn)
          clear hn
          have hr1 : ArrAt T16 (w2.alloc (.cells (zero16.map c8).toArray T16)) w2.heap.size zero16 := ArrAt.new T16 w2 zero16
          rw [show zero16 = arrW [] x (List.replicate (16 - 2 * x.length) 0) 0 from (arr_0 (by omega)).symm] at hr1
          have R1' := Lib.hid (show ArrAt T16 (w2.alloc (.cells (zero16.map c8).toArray T16)) w2.heap.size (arrW [] x (List.replicate (16 - 2 * x.length) 0) 0) from by
            have h := ArrAt.new T16 w2 zero16
            rw [show zero16 = arrW [] x (List.replicate (16 - 2 * x.length) 0) 0 from (arr_0 (by omega)).symm] at h ⊢
            exact h)
          have HLT := Lib.hid R0.out.lt
          have R0a := Lib.hid (R0.out.old (.cells (zero16.map c8).toArray T16))
          have HOxa := Lib.hid (own_later (W := w2.alloc (.cells (zero16.map c8).toArray T16)) HOx2.out fun q e => Below.heap_alloc _ _ _ (own_lt HOx2.out e).2)
          have HOya := Lib.hid (own_later (W := w2.alloc (.cells (zero16.map c8).toArray T16)) HOy2.out fun q e => Below.heap_alloc _ _ _ (own_lt HOy2.out e).2)
          have HBa := Lib.hid (HB.out.alloc HB.out.size (.cells (zero16.map c8).toArray T16))
          have x8 : x.length + y.length ≤ 8 := h8
          clear hr1
          go_wp2_with fail
          go_loopg [13, 14, 59] x.length (fun g s13 s14 s59 wr => ∃ k : Nat, k + g = x.length ∧ s59 = .int .i64 k ∧ ArrAt T16 wr w.heap.size zero16 ∧ ArrAt T16 wr (w2.heap.size) (arrW [] x (List.replicate (16 - 2 * x.length) 0) k) ∧ OwnG 1 enc16 66 wr (w.heap.size + 1) (.slice Ax x.length cx) x ∧ OwnG 1 enc16 66 wr (w.heap.size + 1) (.slice Ay y.length cy) y ∧ Below w.heap.size w wr)
          case atStart => exact ⟨0, by omega, rfl, R0a.out, R1'.out, HOxa.out, HOya.out, HBa.out⟩
          case round =>
            obtain ⟨k, hk, rfl, h0, h1, hOx, hOy, hB⟩ := hrel
            have k0 : (0 : Int) ≤ (k : Int) := by omega
            have R0 := Lib.hid h0
            have R1 := Lib.hid h1
            have HOx := Lib.hid hOx
            have HOy := Lib.hid hOy
            have HB := Lib.hid hB
            clear h0 h1 hOx hOy hB
            cases gk with
            | succ g =>
              have k1 : (k : Int) < (x.length : Int) := by omega
              have hkl : k < x.length := by omega
              obtain ⟨gb, gc, hsl, -, hge, -⟩ := HOx2.out.form (by omega)
              obtain ⟨bb, o, hAe, -⟩ := own_rs enc16_ok HOx.out (by omega)
              subst hAe
              have hbne : bb ≠ w2.heap.size := by
                injection hsl with e1 e2 e3
                injection e1 with e1
                injection e1 with e1 e4 e5
                omega
              clear hsl hge
              obtain ⟨u, hu⟩ : ∃ u, x[k]? = some u := ⟨_, List.getElem?_eq_getElem hkl⟩
              have hcell := (own_rs enc16_ok HOx.out).cell enc16_ok hu (j := 0) rfl
              simp only [Nat.mul_one, Nat.add_zero] at hcell
              have hu9 : u < 65536 := HX9.out u (List.mem_of_getElem? hu)
              obtain ⟨p, hp⟩ : ∃ p, 2 * k = p := ⟨_, rfl⟩
              have p9 : p + 1 ≤ 15 := by omega
              have e0 : 2 * (k : Int) = (p : Int) := by omega
              have t1 : ((p : Int) + 1).toNat = p + 1 := by omega
              have p0 : (0 : Int) ≤ (p : Int) := by omega
              have p1 : (p : Int) < 15 := by omega
              obtain ⟨c0, c1, z0, z1⟩ := R1.out.cells2 (p := p) hkl (by simpa using hp)
              have hput := R1.out.put2' (p := p) hkl hu (by simpa using hp)
              obtain ⟨hi, hhi⟩ : ∃ x, u / 256 = x := ⟨_, rfl⟩
              obtain ⟨lo, hlo⟩ : ∃ x, u % 256 = x := ⟨_, rfl⟩
              rw [hhi, hlo] at hput
              have Hput := Lib.hid hput
              have q1 : (u : Int) / 256 = (hi : Int) := by omega
              have q2 : (u : Int) % 256 = (lo : Int) := by omega
              have hi9 : (hi : Int) ≤ 255 := by omega
              have hi0 : (0 : Int) ≤ (hi : Int) := by omega
              have lo9 : (lo : Int) ≤ 255 := by omega
              have lo0 : (0 : Int) ≤ (lo : Int) := by omega
              have u0 : (0 : Int) ≤ (u : Int) := by omega
              have u9 : (u : Int) ≤ 65535 := by omega
              have R0s := Lib.hid ((R0.out.other (c := w2.heap.size) (i := p) (.int .u8 (hi : Int)) (by have := HLT.out; omega)).other (c := w2.heap.size) (i := p + 1) (.int .u8 (lo : Int)) (by have := HLT.out; omega))
              have HBs := Lib.hid ((HB.out.setCell (p := ⟨w2.heap.size, p, none⟩) (Nat.le_of_lt HLT.out) (.int .u8 (hi : Int))).setCell (p := ⟨w2.heap.size, p + 1, none⟩) (Nat.le_of_lt HLT.out) (.int .u8 (lo : Int)))
              have oth : ∀ q, q < w2.heap.size → ((wr.setCell ⟨w2.heap.size, p, none⟩ (.int .u8 (hi : Int))).setCell ⟨w2.heap.size, p + 1, none⟩ (.int .u8 (lo : Int))).heap[q]? = wr.heap[q]? := fun q hq => (heap_setCell_other _ ⟨w2.heap.size, p + 1, none⟩ q _ (by show q ≠ w2.heap.size; omega)).trans (heap_setCell_other _ ⟨w2.heap.size, p, none⟩ q _ (by show q ≠ w2.heap.size; omega))
              have Oth := Lib.hid oth
              clear hput hu hp hhi hlo hkl hu9 oth
              go_wp2_with fail
              go_roundg g
              case measure => omega
              case rel => exact ⟨k + 1, by omega, by go_num, R0s.out, Hput.out, own_later HOx.out fun q e => Oth.out q (own_lt HOx2.out e).2, own_later HOy.out fun q e => Oth.out q (own_lt HOy2.out e).2, HBs.out⟩
            | zero =>
              have k1 : ¬ (k : Int) < (x.length : Int) := by omega
              have hkx : k = x.length := by omega
              have hr1 := R1.out
              rw [hkx, arr_mid x8] at hr1
              have R1' := Lib.hid hr1
              clear hr1 hkx
              go_wp2_with fail
              go_loopg [15, 16, 17, 79] y.length (fun g s15 s16 s17 s79 wr => ∃ k : Nat, k + g = y.length ∧ s79 = .int .i64 k ∧ ArrAt T16 wr w.heap.size zero16 ∧ ArrAt T16 wr (w2.heap.size) (arrW (bytesG x ++ List.replicate (16 - 2 * x.length - 2 * y.length) 0) y [] k) ∧ OwnG 1 enc16 66 wr (w.heap.size + 1) (.slice Ay y.length cy) y ∧ Below w.heap.size w wr)
              case atStart => exact ⟨0, by omega, rfl, R0.out, R1'.out, HOy.out, HB.out⟩
              case round =>
                obtain ⟨k, hk, rfl, h0, h1, hOy, hB⟩ := hrel
                have k0 : (0 : Int) ≤ (k : Int) := by omega
                have R0 := Lib.hid h0
                have R1 := Lib.hid h1
                have HOy := Lib.hid hOy
                have HB := Lib.hid hB
                clear h0 h1 hOy hB
                cases gk with
                | succ g =>
                  have k1 : (k : Int) < (y.length : Int) := by omega
                  have hkl : k < y.length := by omega
                  obtain ⟨gb, gc, hsl, -, hge, -⟩ := HOy2.out.form (by omega)
                  obtain ⟨bb, o, hAe, -⟩ := own_rs enc16_ok HOy.out (by omega)
                  subst hAe
                  have hbne : bb ≠ w2.heap.size := by
                    injection hsl with e1 e2 e3
                    injection e1 with e1
                    injection e1 with e1 e4 e5
                    omega
                  clear hsl hge
                  obtain ⟨u, hu⟩ : ∃ u, y[k]? = some u := ⟨_, List.getElem?_eq_getElem hkl⟩
                  have hcell := (own_rs enc16_ok HOy.out).cell enc16_ok hu (j := 0) rfl
                  simp only [Nat.mul_one, Nat.add_zero] at hcell
                  have hu9 : u < 65536 := HY9.out u (List.mem_of_getElem? hu)
                  obtain ⟨p, hp⟩ : ∃ p, 16 - 2 * y.length + 2 * k = p := ⟨_, rfl⟩
                  have p9 : p + 1 ≤ 15 := by omega
                  obtain ⟨q0, hq0⟩ : ∃ q, 8 - y.length + k = q := ⟨_, rfl⟩
                  have e00 : 8 - (y.length : Int) + (k : Int) = (q0 : Int) := by omega
                  have e0 : 2 * (q0 : Int) = (p : Int) := by omega
                  have q00 : (0 : Int) ≤ (q0 : Int) := by omega
                  have q08 : (q0 : Int) ≤ 8 := by omega
                  clear hq0
                  have t1 : ((p : Int) + 1).toNat = p + 1 := by omega
                  have p0 : (0 : Int) ≤ (p : Int) := by omega
                  have p1 : (p : Int) < 15 := by omega
                  obtain ⟨c0, c1, z0, z1⟩ := R1.out.cells2 (p := p) hkl (by have := mid_len x8; omega)
                  have hput := R1.out.put2' (p := p) hkl hu (by have := mid_len x8; omega)
                  obtain ⟨hi, hhi⟩ : ∃ x, u / 256 = x := ⟨_, rfl⟩
                  obtain ⟨lo, hlo⟩ : ∃ x, u % 256 = x := ⟨_, rfl⟩
                  rw [hhi, hlo] at hput
                  have Hput := Lib.hid hput
                  have q1 : (u : Int) / 256 = (hi : Int) := by omega
                  have q2 : (u : Int) % 256 = (lo : Int) := by omega
                  have hi9 : (hi : Int) ≤ 255 := by omega
                  have hi0 : (0 : Int) ≤ (hi : Int) := by omega
                  have lo9 : (lo : Int) ≤ 255 := by omega
                  have lo0 : (0 : Int) ≤ (lo : Int) := by omega
                  have u0 : (0 : Int) ≤ (u : Int) := by omega
                  have u9 : (u : Int) ≤ 65535 := by omega
                  have R0s := Lib.hid ((R0.out.other (c := w2.heap.size) (i := p) (.int .u8 (hi : Int)) (by have := HLT.out; omega)).other (c := w2.heap.size) (i := p + 1) (.int .u8 (lo : Int)) (by have := HLT.out; omega))
                  have HBs := Lib.hid ((HB.out.setCell (p := ⟨w2.heap.size, p, none⟩) (Nat.le_of_lt HLT.out) (.int .u8 (hi : Int))).setCell (p := ⟨w2.heap.size, p + 1, none⟩) (Nat.le_of_lt HLT.out) (.int .u8 (lo : Int)))
                  have oth : ∀ q, q < w2.heap.size → ((wr.setCell ⟨w2.heap.size, p, none⟩ (.int .u8 (hi : Int))).setCell ⟨w2.heap.size, p + 1, none⟩ (.int .u8 (lo : Int))).heap[q]? = wr.heap[q]? := fun q hq => (heap_setCell_other _ ⟨w2.heap.size, p + 1, none⟩ q _ (by show q ≠ w2.heap.size; omega)).trans (heap_setCell_other _ ⟨w2.heap.size, p, none⟩ q _ (by show q ≠ w2.heap.size; omega))
                  have Oth := Lib.hid oth
                  clear hput hu hp hhi hlo hkl hu9 oth
                  go_wp2_with fail
                  go_roundg g
                  case measure => omega
                  case rel => exact ⟨k + 1, by omega, by go_num, R0s.out, Hput.out, own_later HOy.out fun q e => Oth.out q (own_lt HOy2.out e).2, HBs.out⟩
                | zero =>
                  have k1 : ¬ (k : Int) < (y.length : Int) := by omega
                  have hky : k = y.length := by omega
                  have hr1 := R1.out
                  rw [hky, arr_end x8] at hr1
                  obtain ⟨gs, hgs⟩ : ∃ gs, x ++ List.replicate (8 - x.length - y.length) 0 ++ y = gs := ⟨_, rfl⟩
                  rw [hgs] at hr1
                  have hf2 := HF.out
                  rw [hgs] at hf2
                  have HF2 := Lib.hid hf2
                  have hl16 : (bytesG gs).length = 16 := by
                    rw [bytesG_len, ← hgs, List.length_append, List.length_append, List.length_replicate]
                    omega
                  have ld := run_loadA hr1 hl16
                  have st := run_storeA (m := bytesG gs) R0.out (by decide) hl16
                  have R0' := Lib.hid (ArrAt.setRow (m := bytesG gs) R0.out)
                  have HL := Lib.hid hl16
                  clear hr1 hky hgs hf2 hl16
                  go_wp2_with fail
                  refine bodyPost_ret (results_16 Tryd.results14 _ _ rfl R0'.out HL.out) rfl ⟨by rw [HF2.out]; rfl, below_setRow HB.out (Nat.le_refl _) _⟩
end Go.Proofs.YtoldhhaplndkcaaDoor
