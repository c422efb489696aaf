/- The document's Parse6. -/
import Derived.Test.YtoldhhaplndkcaaDoorP6L
namespace Go.Proofs.YtoldhhaplndkcaaDoor
open Go.RowKit Go.Shelf Go.Deep
set_option linter.unusedVariables false
set_option linter.unusedSimpArgs false

theorem ArrAt.put2' {t : TypeId} {w : World} {b : Nat} {A xs B : List Nat} {k g p : Nat} (h : ArrAt t w b (arrW A xs B k)) (hk : k < xs.length) (hg : xs[k]? = some g) (hp : A.length + 2 * k = p) :
    ArrAt t ((w.setCell ⟨b, p, none⟩ (.int .u8 ((g / 256 : Nat) : Int))).setCell ⟨b, p + 1, none⟩ (.int .u8 ((g % 256 : Nat) : Int))) b (arrW A xs B (k + 1)) := by
  subst hp
  exact h.put2 hk hg
theorem ArrAt.cells2 {t : TypeId} {w : World} {b : Nat} {A xs B : List Nat} {k p : Nat} (h : ArrAt t w b (arrW A xs B k)) (hk : k < xs.length) (hp : A.length + 2 * k = p) :
    w.cell? ⟨b, p, none⟩ = some (.int .u8 0) ∧ w.cell? ⟨b, p + 1, none⟩ = some (.int .u8 0) ∧ w.frozen? ⟨b, p, none⟩ = false ∧ w.frozen? ⟨b, p + 1, none⟩ = false := by
  subst hp
  obtain ⟨h1, h2⟩ := arrW_get (A := A) (B := B) hk
  exact ⟨h.cell h1, h.cell h2, h.frozen _, h.frozen _⟩
theorem RdEnd.any {enc : Nat → List Value} {t : TypeId} {w w' : World} {o : Option (List Nat)} {e : Ending} (E : EncOk 1 enc) (h : RdEnd enc t w o e w') : (∃ A n c, e = .returned (.tuple #[.slice A n c, .bool o.isSome])) ∧ Below w.heap.size w w' := by
  obtain ⟨h1, h2⟩ := h
  refine ⟨?_, h2⟩
  cases o with
  | none => exact ⟨_, _, _, h1⟩
  | some gs =>
    obtain ⟨v, rfl, hO⟩ := h1
    obtain ⟨A, c, rfl, _⟩ := OwnG.rs E hO
    exact ⟨_, _, _, rfl⟩
/-- The two halves of a text at its first gap. -/
theorem cut_cases (s : ByteArray) : ∃ (H T : ByteArray) (f : Bool), H.data.toList = (Lib.cut s.data.toList [58, 58]).1 ∧ T.data.toList = (Lib.cut s.data.toList [58, 58]).2.1 ∧ (Lib.cut s.data.toList [58, 58]).2.2 = f ∧ H.size ≤ s.size ∧ T.size ≤ s.size ∧
    ((f = true ∧ ∃ n : Nat, Lib.index s.data.toList [58, 58] = (n : Int) ∧ n + 2 ≤ s.size ∧ H = s.extract 0 n ∧ T = s.extract (n + 2) s.size) ∨ (f = false ∧ Lib.index s.data.toList [58, 58] = -1 ∧ H = s ∧ T = ⟨#[]⟩)) := by
  rcases Lib.indexB_cases s ⟨#[58, 58]⟩ with h | ⟨n, h, hn⟩
  · have h : Lib.index s.data.toList [58, 58] = -1 := h
    have hc : Lib.cut s.data.toList [58, 58] = (s.data.toList, [], false) := by
      unfold Lib.cut
      rw [h, if_neg (by decide)]
    refine ⟨s, ⟨#[]⟩, false, by rw [hc], by rw [hc], by rw [hc], Nat.le_refl _, Nat.zero_le _, .inr ⟨rfl, h, rfl, rfl⟩⟩
  · have h : Lib.index s.data.toList [58, 58] = (n : Int) := h
    have hn : n + 2 ≤ s.size := hn
    have hc : Lib.cut s.data.toList [58, 58] = (s.data.toList.take n, s.data.toList.drop (n + 2), true) := by
      unfold Lib.cut
      rw [h, if_pos (by omega)]
      rfl
    refine ⟨s.extract 0 n, s.extract (n + 2) s.size, true, ?_, ?_, by rw [hc], by rw [ByteArray.size_extract]; omega, by rw [ByteArray.size_extract]; omega, .inl ⟨rfl, n, h, hn, rfl, rfl⟩⟩
    · rw [hc, extract_list, List.drop_zero]
      rfl
    · rw [hc, extract_list, List.take_of_length_le (by rw [List.length_drop, size_list]; omega)]
/-- Is the count of groups a wrong one? -/
def badG (f : Bool) (x y : List Nat) : Bool := if f then decide (7 < x.length + y.length) else decide (x.length ≠ 8)
theorem p6_bad {l : List UInt8} {x y : List Nat} {f : Bool} (h1 : readG (Lib.cut l [58, 58]).1 = some x) (h2 : readG (Lib.cut l [58, 58]).2.1 = some y) (hf : (Lib.cut l [58, 58]).2.2 = f) (h : badG f x y = true) : p6L l = none := by
  rw [p6_some h1 h2, hf]
  cases f with
  | true =>
    have h : 7 < x.length + y.length := by simpa [badG] using h
    rw [if_pos rfl, if_neg (by omega)]
  | false =>
    have h : x.length ≠ 8 := by simpa [badG] using h
    rw [if_neg (by decide), if_neg h]
theorem p6_good {l : List UInt8} {x y : List Nat} {f : Bool} (h1 : readG (Lib.cut l [58, 58]).1 = some x) (h2 : readG (Lib.cut l [58, 58]).2.1 = some y) (hf : (Lib.cut l [58, 58]).2.2 = f) (hy : f = false → y = []) (h : badG f x y = false) : p6L l = some (x ++ List.replicate (8 - x.length - y.length) 0 ++ y) ∧ x.length + y.length ≤ 8 := by
  rw [p6_some h1 h2, hf]
  cases f with
  | true =>
    have h : x.length + y.length ≤ 7 := by simpa [badG] using h
    rw [if_pos rfl, if_pos h]
    exact ⟨rfl, by omega⟩
  | false =>
    have h : x.length = 8 := by simpa [badG] using h
    rw [if_neg (by decide), if_pos h, hy rfl]
    constructor
    · congr 1
      simp [h]
    · simp [h]
theorem cut_no {l : List UInt8} (h : (Lib.cut l [58, 58]).2.2 = false) : (Lib.cut l [58, 58]).2.1 = [] := by
  unfold Lib.cut at h ⊢
  split at h
  · cases h
  · rename_i h2
    rw [if_neg h2]
theorem p6_rg1 {l : List UInt8} (h : rgL (Lib.cut l [58, 58]).1 = none) : p6L l = none := by
  rcases read_rg h with h | ⟨x, h, h8⟩
  · exact p6_none (.inl h)
  · cases hy : readG (Lib.cut l [58, 58]).2.1 with
    | none => exact p6_none (.inr hy)
    | some y =>
      rw [p6_some h hy]
      split
      · rw [if_neg (by omega)]
      · rw [if_neg (by omega)]
theorem p6_rg2 {l : List UInt8} (h : rgL (Lib.cut l [58, 58]).2.1 = none) : p6L l = none := by
  rcases read_rg h with h2 | ⟨y, h2, h8⟩
  · exact p6_none (.inr h2)
  · cases hx : readG (Lib.cut l [58, 58]).1 with
    | none => exact p6_none (.inl hx)
    | some x =>
      rw [p6_some hx h2]
      split
      · rw [if_neg (by omega)]
      · rename_i hf
        have := cut_no (l := l) (by simpa using hf)
        rw [this] at h
        cases h
theorem read_nil {y : List Nat} (h : readG [] = some y) : y = [] := by
  cases h
  rfl
abbrev zero8 : List Nat := List.replicate 8 0
set_option maxRecDepth 100000 in
set_option maxHeartbeats 6400000 in
theorem rparse6_any (s : ByteArray) (w : World) (hs : s.size ≤ 1048576) : Calls Tryd.prog 15 #[.string s] w fun e w' => e = .returned (.tuple #[agg16 (bytesG ((p6L s.data.toList).getD zero8)), .int .i64 (err60 (p6L s.data.toList))]) ∧ Below w.heap.size w w' := by
  obtain ⟨R, hR⟩ : ∃ R, p6L s.data.toList = R := ⟨_, rfl⟩
  rw [hR]
  have HR := Lib.hid hR
  obtain ⟨H, T, f, hH, hT, hf, hHs, hTs, hcase⟩ := cut_cases s
  have cg := fun W => rgap_any s W hs
  obtain ⟨I, hI⟩ : ∃ I, Lib.index s.data.toList [58, 58] = I := ⟨_, rfl⟩
  rw [hI] at hcase
  simp only [hI] at cg
  have HH := Lib.hid hH
  have HT := Lib.hid hT
  have Hf := Lib.hid hf
  have Hcase := Lib.hid hcase
  have Cg := Lib.hid cg
  have hHs2 : H.size ≤ 1048576 := by omega
  have hTs2 : T.size ≤ 1048576 := by omega
  clear hR hH hT hf hcase cg hI hHs hTs
  go_enter Tryd.func15, Tryd.ntmps15
  go_wp2_with fail
  refine (Cg.out _).mono ?_
  rintro e w0 ⟨rfl, hw0⟩
  have hB0 : Below w.heap.size w w0 := by rw [← hw0]; exact ((Below.refl _ w).alloc (Nat.le_refl _) _).alloc (by simp) _
  have hr0 : ArrAt T16 w0 w.heap.size zero16 := by rw [← hw0]; exact (ArrAt.new T16 w zero16).old _
  have hr1 : ArrAt T16 w0 (w.heap.size + 1) zero16 := by
    have h := ArrAt.new T16 (w.alloc (.cells (zero16.map c8).toArray 29)) zero16
    rw [World.size_alloc] at h
    rw [← hw0]
    exact h
  have HW2 := Lib.hid (show w.heap.size + 2 ≤ w0.heap.size by rw [← hw0]; simp)
  have HB0 := Lib.hid hB0
  have Hr0 := Lib.hid hr0
  have Hr1 := Lib.hid hr1
  clear hw0 hB0 hr0 hr1
  go_upto_if 19 with fail
  go_cut [6, 7] (fun s6 s7 W => s6 = .string H ∧ s7 = .string T ∧ w0 = W)
  case first =>
    rcases Hcase.out with ⟨_, n, hn, hn2, e1, e2⟩ | ⟨_, hn, e1, e2⟩
    · have d1 : I ≥ 0 := by omega
      subst hn
      have n0 : (0 : Int) ≤ (n : Int) := by omega
      have n1 : (n : Int) ≤ (s.size : Int) := by omega
      have n2 : (n : Int) + 2 ≤ (s.size : Int) := by omega
      have t1 : ((n : Int) + 2).toNat = n + 2 := by omega
      have E1 := Lib.hid e1
      have E2 := Lib.hid e2
      clear e1 e2
      go_wp2_with fail
      go_meet
      exact ⟨by rw [E1.out], by rw [E2.out], rfl⟩
    · have d1 : ¬ I ≥ 0 := by omega
      have E1 := Lib.hid e1
      have E2 := Lib.hid e2
      clear e1 e2 hn
      go_wp2_with fail
      go_meet
      exact ⟨by rw [E1.out], by rw [E2.out], rfl⟩
  case rest =>
    obtain ⟨rfl, rfl, rfl⟩ := hcut
    have cx := rgroups_any H w0 hHs2
    have cy := fun W => rgroups_any T W hTs2
    cases hx : rgL H.data.toList with
    | none =>
      rw [hx] at cx
      have hn : p6L s.data.toList = none := p6_rg1 (by rw [← HH.out]; exact hx)
      have HF := Lib.hid (HR.out.symm.trans hn)
      have Cx := Lib.hid cx
      have Cy := Lib.hid (fun W => (cy W).mono fun e w' h => RdEnd.any encIN_ok h)
      clear cx cy hn hx
      go_wp2_with fail
      refine Cx.out.mono ?_
      rintro e w1 ⟨h1, hB1⟩
      have h1 : e = .returned (.tuple #[.slice none 0 0, .bool false]) := h1
      subst h1
      have HB1 := Lib.hid hB1
      clear hB1
      go_wp2_with fail
      refine (Cy.out _).mono ?_
      rintro e w2 ⟨⟨A, n, c, rfl⟩, hB2⟩
      have hB2 := HB1.out.trans (hB2.mono HB1.out.size)
      have R0 := Lib.hid (Hr0.out.later hB2)
      have R1 := Lib.hid (Hr1.out.later hB2)
      have HB := Lib.hid (HB0.out.trans (hB2.mono HB0.out.size))
      clear hB2
      have ld := run_loadA R1.out (by decide)
      have st := run_storeA (m := zero16) R0.out (by decide) (by decide)
      go_wp2_with fail
      refine bodyPost_ret (results_16 Tryd.results15 _ _ rfl (ArrAt.setRow (m := zero16) R0.out) (by decide)) rfl ⟨by rw [HF.out]; rfl, below_setRow HB.out (Nat.le_refl _) _⟩
    | some x =>
      obtain ⟨hx1, hx8⟩ := rg_read hx
      rw [hx] at cx
      have Cx := Lib.hid cx
      cases hy : rgL T.data.toList with
      | none =>
        have hn : p6L s.data.toList = none := p6_rg2 (by rw [← HT.out]; exact hy)
        have HF := Lib.hid (HR.out.symm.trans hn)
        rw [hy] at cy
        have Cy := Lib.hid cy
        clear cx cy hn hx hy hx1
        go_wp2_with fail
        refine Cx.out.mono ?_
        rintro e w1 ⟨⟨v, rfl, hO⟩, hB1⟩
        obtain ⟨A, c, rfl, _⟩ := OwnG.rs encIN_ok hO
        have HB1 := Lib.hid hB1
        clear hB1 hO
        go_wp2_with fail
        refine (Cy.out _).mono ?_
        rintro e w2 ⟨h2, hB2⟩
        have h2 : e = .returned (.tuple #[.slice none 0 0, .bool false]) := h2
        subst h2
        have hB2 := HB1.out.trans (hB2.mono HB1.out.size)
        have R0 := Lib.hid (Hr0.out.later hB2)
        have R1 := Lib.hid (Hr1.out.later hB2)
        have HB := Lib.hid (HB0.out.trans (hB2.mono HB0.out.size))
        clear hB2
        have ld := run_loadA R1.out (by decide)
        have st := run_storeA (m := zero16) R0.out (by decide) (by decide)
        go_wp2_with fail
        refine bodyPost_ret (results_16 Tryd.results15 _ _ rfl (ArrAt.setRow (m := zero16) R0.out) (by decide)) rfl ⟨by rw [HF.out]; rfl, below_setRow HB.out (Nat.le_refl _) _⟩
      | some y =>
        obtain ⟨hy1, hy8⟩ := rg_read hy
        rw [hy] at cy
        have Cy := Lib.hid cy
        have h1 : readG (Lib.cut s.data.toList [58, 58]).1 = some x := by rw [← HH.out]; exact hx1
        have h2 : readG (Lib.cut s.data.toList [58, 58]).2.1 = some y := by rw [← HT.out]; exact hy1
        have hx9 := readG_lt h1
        have hy9 := readG_lt h2
        have hyn : f = false → y = [] := fun e => by
          have := cut_no (l := s.data.toList) (by rw [Hf.out]; exact e)
          rw [this] at h2
          exact read_nil h2
        have hbad := fun e => p6_bad h1 h2 Hf.out (f := f) e
        have hgood := fun e => p6_good h1 h2 Hf.out (f := f) hyn e
        obtain ⟨bb, hbb⟩ : ∃ b, badG f x y = b := ⟨_, rfl⟩
        rw [hbb] at hbad hgood
        have HBb := Lib.hid hbb
        have HBad := Lib.hid hbad
        have HGood := Lib.hid hgood
        have HX9 := Lib.hid hx9
        have HY9 := Lib.hid hy9
        clear cx cy hx hy hx1 hy1 h1 h2 hyn hbad hgood hbb hx9 hy9
        go_wp2_with fail
        refine Cx.out.mono ?_
        rintro e w1 ⟨⟨vx, rfl, hOx⟩, hB1⟩
        have hOx := own_mono hOx HW2.out
        obtain ⟨Ax, cx, rfl, _⟩ := OwnG.rs encIN_ok (show OwnG 1 encIN 3 w1 (w.heap.size + 2) vx x from hOx)
        have HB1 := Lib.hid hB1
        have HOx := Lib.hid (show OwnG 1 encIN 3 w1 (w.heap.size + 2) (.slice Ax x.length cx) x from hOx)
        clear hB1 hOx
        go_wp2_with fail
        refine (Cy.out _).mono ?_
        rintro e w2 ⟨⟨vy, rfl, hOy⟩, hB2⟩
        have hOx2 : OwnG 1 encIN 3 w2 (w.heap.size + 2) (.slice Ax x.length cx) x := own_below HOx.out hB2
        have hOy := own_mono hOy (Nat.le_trans HW2.out HB1.out.size)
        obtain ⟨Ay, cy, rfl, _⟩ := OwnG.rs encIN_ok (show OwnG 1 encIN 3 w2 (w.heap.size + 2) vy y from hOy)
        have hB2 := HB1.out.trans (hB2.mono HB1.out.size)
        have HOx2 := Lib.hid hOx2
        have HOy2 := Lib.hid (show OwnG 1 encIN 3 w2 (w.heap.size + 2) (.slice Ay y.length cy) y from hOy)
        have R0 := Lib.hid (Hr0.out.later hB2)
        have R1 := Lib.hid (Hr1.out.later hB2)
        have HB := Lib.hid (HB0.out.trans (hB2.mono HB0.out.size))
        clear hB2 hOx2 hOy
        go_upto_region 9 with fail
        go_cut [63] (fun s63 W => s63 = .bool bb ∧ w2 = W)
        case first =>
          rcases Hcase.out with ⟨rfl, n, hn, q1, q2, q3⟩ | ⟨rfl, hn, q2, q3⟩
          · have d1 : ¬ I < 0 := by omega
            have d2 : I ≥ 0 := by omega
            by_cases h7 : 7 < x.length + y.length
            · have d3 : (x.length : Int) + (y.length : Int) > 7 := by omega
              have hb : bb = true := by rw [← HBb.out]; simp [badG, h7]
              subst hb
              clear hn h7 q1 q2 q3
              go_wp2_with fail
              go_meet
              exact ⟨rfl, rfl⟩
            · have d3 : ¬ (x.length : Int) + (y.length : Int) > 7 := by omega
              have hb : bb = false := by rw [← HBb.out]; simp [badG, h7]
              subst hb
              clear hn h7 q1 q2 q3
              go_wp2_with fail
              go_meet
              exact ⟨rfl, rfl⟩
          · have d1 : I < 0 := by omega
            have d2 : ¬ I ≥ 0 := by omega
            by_cases h8 : x.length = 8
            · have d3 : ((x.length : Int) != 8) = false := by rw [h8]; rfl
              have hb : bb = false := by rw [← HBb.out]; simp [badG, h8]
              subst hb
              clear hn h8 q2 q3
              go_wp2_with fail
              go_meet
              exact ⟨rfl, rfl⟩
            · have d3 : ((x.length : Int) != 8) = true := by rw [bne_iff_ne]; omega
              have hb : bb = true := by rw [← HBb.out]; simp [badG, h8]
              subst hb
              clear hn h8 q2 q3
              go_wp2_with fail
              go_meet
              exact ⟨rfl, rfl⟩
        case rest =>
          obtain ⟨rfl, rfl⟩ := hcut
          cases bb with
          | true =>
            have hn := HBad.out rfl
            have HF := Lib.hid (HR.out.symm.trans hn)
            clear hn
            have ld := run_loadA R1.out (by decide)
            have st := run_storeA (m := zero16) R0.out (by decide) (by decide)
            go_wp2_with fail
            refine bodyPost_ret (results_16 Tryd.results15 _ _ rfl (ArrAt.setRow (m := zero16) R0.out) (by decide)) rfl ⟨by rw [HF.out]; rfl, below_setRow HB.out (Nat.le_refl _) _⟩
          | false =>
            obtain ⟨hn, h8⟩ := HGood.out rfl
            have HF := Lib.hid (HR.out.symm.trans hn)
            clear hn
            have hr1 := R1.out
            rw [show zero16 = arrW [] x (List.replicate (16 - 2 * x.length) 0) 0 from (arr_0 (by omega)).symm] at hr1
            have R1' := Lib.hid hr1
            have x8 : x.length + y.length ≤ 8 := h8
            clear hr1
            go_wp2_with fail
            go_loopg [12] x.length (fun g s12 wr => ∃ k : Nat, k + g = x.length ∧ s12 = .int .i64 k ∧ ArrAt T16 wr w.heap.size zero16 ∧ ArrAt T16 wr (w.heap.size + 1) (arrW [] x (List.replicate (16 - 2 * x.length) 0) k) ∧ OwnG 1 encIN 3 wr (w.heap.size + 2) (.slice Ax x.length cx) x ∧ OwnG 1 encIN 3 wr (w.heap.size + 2) (.slice Ay y.length cy) y ∧ Below w.heap.size w wr)
            case atStart => exact ⟨0, by omega, rfl, R0.out, R1'.out, HOx2.out, HOy2.out, HB.out⟩
            case round =>
              obtain ⟨k, hk, rfl, h0, h1, hOx, hOy, hB⟩ := hrel
              have k0 : (0 : Int) ≤ (k : Int) := by omega
              have R0 := Lib.hid h0
              have R1 := Lib.hid h1
              have HOx := Lib.hid hOx
              have HOy := Lib.hid hOy
              have HB := Lib.hid hB
              clear h0 h1 hOx hOy hB
              cases gk with
              | succ g =>
                have k1 : (k : Int) < (x.length : Int) := by omega
                have hkl : k < x.length := by omega
                obtain ⟨gb, gc, hsl, hge, -, -⟩ := HOx.out.form (by omega)
                obtain ⟨bb, o, hAe, -⟩ := own_rs encIN_ok HOx.out (by omega)
                subst hAe
                have hbne : bb ≠ w.heap.size + 1 := by
                  injection hsl with e1 e2 e3
                  injection e1 with e1
                  injection e1 with e1 e4 e5
                  omega
                clear hsl hge
                obtain ⟨u, hu⟩ : ∃ u, x[k]? = some u := ⟨_, List.getElem?_eq_getElem hkl⟩
                have hcell := (own_rs encIN_ok HOx.out).cell encIN_ok hu (j := 0) rfl
                simp only [Nat.mul_one, Nat.add_zero] at hcell
                have hu9 : u < 65536 := HX9.out u (List.mem_of_getElem? hu)
                obtain ⟨p, hp⟩ : ∃ p, 2 * k = p := ⟨_, rfl⟩
                have p9 : p + 1 ≤ 15 := by omega
                have e0 : 2 * (k : Int) = (p : Int) := by omega
                have t1 : ((p : Int) + 1).toNat = p + 1 := by omega
                have p0 : (0 : Int) ≤ (p : Int) := by omega
                have p1 : (p : Int) < 15 := by omega
                obtain ⟨c0, c1, z0, z1⟩ := R1.out.cells2 (p := p) hkl (by simpa using hp)
                have hput := R1.out.put2' (p := p) hkl hu (by simpa using hp)
                obtain ⟨hi, hhi⟩ : ∃ x, u / 256 = x := ⟨_, rfl⟩
                obtain ⟨lo, hlo⟩ : ∃ x, u % 256 = x := ⟨_, rfl⟩
                rw [hhi, hlo] at hput
                have Hput := Lib.hid hput
                have q1 : (u : Int) / 256 = (hi : Int) := by omega
                have q2 : (u : Int) % 256 = (lo : Int) := by omega
                have hi9 : (hi : Int) ≤ 255 := by omega
                have hi0 : (0 : Int) ≤ (hi : Int) := by omega
                have lo9 : (lo : Int) ≤ 255 := by omega
                have lo0 : (0 : Int) ≤ (lo : Int) := by omega
                have u0 : (0 : Int) ≤ (u : Int) := by omega
                have u9 : (u : Int) ≤ 65535 := by omega
                have R0s := Lib.hid ((R0.out.other (c := w.heap.size + 1) (i := p) (.int .u8 (hi : Int)) (by omega)).other (c := w.heap.size + 1) (i := p + 1) (.int .u8 (lo : Int)) (by omega))
                have HBs := Lib.hid ((HB.out.setCell (p := ⟨w.heap.size + 1, p, none⟩) (Nat.le_succ _) (.int .u8 (hi : Int))).setCell (p := ⟨w.heap.size + 1, p + 1, none⟩) (Nat.le_succ _) (.int .u8 (lo : Int)))
                have oth : ∀ q, w.heap.size + 2 ≤ q → ((wr.setCell ⟨w.heap.size + 1, p, none⟩ (.int .u8 (hi : Int))).setCell ⟨w.heap.size + 1, p + 1, none⟩ (.int .u8 (lo : Int))).heap[q]? = wr.heap[q]? := fun q hq => (heap_setCell_other _ ⟨w.heap.size + 1, p + 1, none⟩ q _ (by show q ≠ w.heap.size + 1; omega)).trans (heap_setCell_other _ ⟨w.heap.size + 1, p, none⟩ q _ (by show q ≠ w.heap.size + 1; omega))
                have Oth := Lib.hid oth
                have hcell2 : (wr.setCell ⟨w.heap.size + 1, p, none⟩ (.int .u8 (hi : Int))).cell? ⟨bb, o + k, none⟩ = some (.int .i64 (u : Int)) := by
                  rw [World.cell?_of_block (heap_setCell_other wr ⟨w.heap.size + 1, p, none⟩ bb _ hbne)]
                  exact hcell
                clear hput hu hp hhi hlo hkl hu9 oth
                go_wp2_with fail
                go_roundg g
                case measure => omega
                case rel => exact ⟨k + 1, by omega, by go_num, R0s.out, Hput.out, own_later HOx.out fun q e => Oth.out q (own_lt HOx.out e).1, own_later HOy.out fun q e => Oth.out q (own_lt HOy.out e).1, HBs.out⟩
              | zero =>
                have k1 : ¬ (k : Int) < (x.length : Int) := by omega
                have hkx : k = x.length := by omega
                have hr1 := R1.out
                rw [hkx, arr_mid x8] at hr1
                have R1' := Lib.hid hr1
                clear hr1 hkx
                go_wp2_with fail
                go_loopg [13, 14] y.length (fun g s13 s14 wr => ∃ k : Nat, k + g = y.length ∧ s13 = .int .i64 k ∧ ArrAt T16 wr w.heap.size zero16 ∧ ArrAt T16 wr (w.heap.size + 1) (arrW (bytesG x ++ List.replicate (16 - 2 * x.length - 2 * y.length) 0) y [] k) ∧ OwnG 1 encIN 3 wr (w.heap.size + 2) (.slice Ay y.length cy) y ∧ Below w.heap.size w wr)
                case atStart => exact ⟨0, by omega, rfl, R0.out, R1'.out, HOy.out, HB.out⟩
                case round =>
                  obtain ⟨k, hk, rfl, h0, h1, hOy, hB⟩ := hrel
                  have k0 : (0 : Int) ≤ (k : Int) := by omega
                  have R0 := Lib.hid h0
                  have R1 := Lib.hid h1
                  have HOy := Lib.hid hOy
                  have HB := Lib.hid hB
                  clear h0 h1 hOy hB
                  cases gk with
                  | succ g =>
                    have k1 : (k : Int) < (y.length : Int) := by omega
                    have hkl : k < y.length := by omega
                    obtain ⟨gb, gc, hsl, hge, -, -⟩ := HOy.out.form (by omega)
                    obtain ⟨bb, o, hAe, -⟩ := own_rs encIN_ok HOy.out (by omega)
                    subst hAe
                    have hbne : bb ≠ w.heap.size + 1 := by
                      injection hsl with e1 e2 e3
                      injection e1 with e1
                      injection e1 with e1 e4 e5
                      omega
                    clear hsl hge
                    obtain ⟨u, hu⟩ : ∃ u, y[k]? = some u := ⟨_, List.getElem?_eq_getElem hkl⟩
                    have hcell := (own_rs encIN_ok HOy.out).cell encIN_ok hu (j := 0) rfl
                    simp only [Nat.mul_one, Nat.add_zero] at hcell
                    have hu9 : u < 65536 := HY9.out u (List.mem_of_getElem? hu)
                    obtain ⟨p, hp⟩ : ∃ p, 16 - 2 * y.length + 2 * k = p := ⟨_, rfl⟩
                    have p9 : p + 1 ≤ 15 := by omega
                    have e0 : 16 - 2 * (y.length : Int) + 2 * (k : Int) = (p : Int) := by omega
                    have t1 : ((p : Int) + 1).toNat = p + 1 := by omega
                    have p0 : (0 : Int) ≤ (p : Int) := by omega
                    have p1 : (p : Int) < 15 := by omega
                    obtain ⟨c0, c1, z0, z1⟩ := R1.out.cells2 (p := p) hkl (by have := mid_len x8; omega)
                    have hput := R1.out.put2' (p := p) hkl hu (by have := mid_len x8; omega)
                    obtain ⟨hi, hhi⟩ : ∃ x, u / 256 = x := ⟨_, rfl⟩
                    obtain ⟨lo, hlo⟩ : ∃ x, u % 256 = x := ⟨_, rfl⟩
                    rw [hhi, hlo] at hput
                    have Hput := Lib.hid hput
                    have q1 : (u : Int) / 256 = (hi : Int) := by omega
                    have q2 : (u : Int) % 256 = (lo : Int) := by omega
                    have hi9 : (hi : Int) ≤ 255 := by omega
                    have hi0 : (0 : Int) ≤ (hi : Int) := by omega
                    have lo9 : (lo : Int) ≤ 255 := by omega
                    have lo0 : (0 : Int) ≤ (lo : Int) := by omega
                    have u0 : (0 : Int) ≤ (u : Int) := by omega
                    have u9 : (u : Int) ≤ 65535 := by omega
                    have R0s := Lib.hid ((R0.out.other (c := w.heap.size + 1) (i := p) (.int .u8 (hi : Int)) (by omega)).other (c := w.heap.size + 1) (i := p + 1) (.int .u8 (lo : Int)) (by omega))
                    have HBs := Lib.hid ((HB.out.setCell (p := ⟨w.heap.size + 1, p, none⟩) (Nat.le_succ _) (.int .u8 (hi : Int))).setCell (p := ⟨w.heap.size + 1, p + 1, none⟩) (Nat.le_succ _) (.int .u8 (lo : Int)))
                    have oth : ∀ q, w.heap.size + 2 ≤ q → ((wr.setCell ⟨w.heap.size + 1, p, none⟩ (.int .u8 (hi : Int))).setCell ⟨w.heap.size + 1, p + 1, none⟩ (.int .u8 (lo : Int))).heap[q]? = wr.heap[q]? := fun q hq => (heap_setCell_other _ ⟨w.heap.size + 1, p + 1, none⟩ q _ (by show q ≠ w.heap.size + 1; omega)).trans (heap_setCell_other _ ⟨w.heap.size + 1, p, none⟩ q _ (by show q ≠ w.heap.size + 1; omega))
                    have Oth := Lib.hid oth
                    have hcell2 : (wr.setCell ⟨w.heap.size + 1, p, none⟩ (.int .u8 (hi : Int))).cell? ⟨bb, o + k, none⟩ = some (.int .i64 (u : Int)) := by
                      rw [World.cell?_of_block (heap_setCell_other wr ⟨w.heap.size + 1, p, none⟩ bb _ hbne)]
                      exact hcell
                    clear hput hu hp hhi hlo hkl hu9 oth
                    go_wp2_with fail
                    go_roundg g
                    case measure => omega
                    case rel => exact ⟨k + 1, by omega, by go_num, R0s.out, Hput.out, own_later HOy.out fun q e => Oth.out q (own_lt HOy.out e).1, HBs.out⟩
                  | zero =>
                    have k1 : ¬ (k : Int) < (y.length : Int) := by omega
                    have hky : k = y.length := by omega
                    have hr1 := R1.out
                    rw [hky, arr_end x8] at hr1
                    obtain ⟨gs, hgs⟩ : ∃ gs, x ++ List.replicate (8 - x.length - y.length) 0 ++ y = gs := ⟨_, rfl⟩
                    rw [hgs] at hr1
                    have hf2 := HF.out
                    rw [hgs] at hf2
                    have HF2 := Lib.hid hf2
                    have hl16 : (bytesG gs).length = 16 := by
                      rw [bytesG_len, ← hgs, List.length_append, List.length_append, List.length_replicate]
                      omega
                    have ld := run_loadA hr1 hl16
                    have st := run_storeA (m := bytesG gs) R0.out (by decide) hl16
                    have R0' := Lib.hid (ArrAt.setRow (m := bytesG gs) R0.out)
                    have HL := Lib.hid hl16
                    clear hr1 hky hgs hf2 hl16
                    go_wp2_with fail
                    refine bodyPost_ret (results_16 Tryd.results15 _ _ rfl R0'.out HL.out) rfl ⟨by rw [HF2.out]; rfl, below_setRow HB.out (Nat.le_refl _) _⟩
end Go.Proofs.YtoldhhaplndkcaaDoor
