/- Print4: the program's and the document's. -/
import Derived.Test.YtoldhhaplndkcaaDoorP4R
import Derived.Test.YtoldhhaplndkcaaDoorDec
namespace Go.Proofs.YtoldhhaplndkcaaDoor
open Go.RowKit Go.Shelf Go.Deep
set_option linter.unusedVariables false
set_option linter.unusedSimpArgs false

theorem joinL_snoc (c : UInt8) : ∀ (xs : List (List UInt8)) (x : List UInt8), xs ≠ [] → joinL c (xs ++ [x]) = joinL c xs ++ c :: x
  | [], _, h => absurd rfl h
  | [y], x, _ => rfl
  | y :: z :: r, x, _ => by
    show y ++ c :: joinL c ((z :: r) ++ [x]) = (y ++ c :: joinL c (z :: r)) ++ c :: x
    rw [joinL_snoc c (z :: r) x (by simp)]
    simp
theorem print4_len {l : List Nat} (h4 : l.length ≤ 4) (h : ∀ x ∈ l, x ≤ 255) : (print4L l).length ≤ 1000 := by
  have key : ∀ (xs : List (List UInt8)), (∀ x ∈ xs, x.length ≤ 20) → (joinL 46 xs).length ≤ 21 * xs.length := by
    intro xs
    induction xs with
    | nil => intro _; exact Nat.le_refl _
    | cons x r ih =>
      intro hx
      have h1 := hx x (List.mem_cons_self ..)
      have h2 := ih fun y hy => hx y (List.mem_cons_of_mem _ hy)
      cases r with
      | nil => show x.length ≤ 21 * 1; omega
      | cons y r =>
        show (x ++ 46 :: joinL 46 (y :: r)).length ≤ 21 * ((y :: r).length + 1)
        rw [List.length_append, List.length_cons]
        omega
  have := key (l.map dcl) (fun x hx => by obtain ⟨n, _, rfl⟩ := List.mem_map.1 hx; exact dcl_len n)
  rw [List.length_map] at this
  unfold print4L
  omega
set_option maxRecDepth 100000 in
set_option maxHeartbeats 3200000 in
theorem rprint4_any (l : List Nat) (w : World) (h4 : l.length = 4) (hl : ∀ x ∈ l, x ≤ 255) : Calls Tryd.prog 12 #[agg4 l] w fun e w' => e = .returned (.string (bs (print4L l))) ∧ Below w.heap.size w w' := by
  obtain ⟨a, b, c, d, rfl⟩ := four_of h4
  have hbox := ArrAt.new 22 w [a, b, c, d]
  have hB0 : Below w.heap.size w (w.alloc (.cells ([a, b, c, d].map c8).toArray 22)) := (Below.refl _ w).alloc (Nat.le_refl _) _
  have Hbox := Lib.hid hbox
  have HB0 := Lib.hid hB0
  have Hl := Lib.hid hl
  clear hbox hB0 hl h4
  obtain ⟨L, hL⟩ : ∃ L, [a, b, c, d] = L := ⟨_, rfl⟩
  have hL4 : L.length = 4 := by rw [← hL]; rfl
  have HL4 := Lib.hid hL4
  have HLe := Lib.hid hL
  clear hL hL4
  show Calls Tryd.prog 12 #[.agg #[.int .u8 a, .int .u8 b, .int .u8 c, .int .u8 d]] w _
  go_enter Tryd.func12, Tryd.ntmps12
  go_wp2_with fail
  go_loopg [3, 4] 4 (fun g s3 s4 wr => ∃ (k : Nat) (S : ByteArray), k + g = 4 ∧ s3 = .string S ∧ s4 = .int .i64 k ∧ Aside (S = bs (print4L (L.take k))) ∧ ArrAt 22 wr w.heap.size L ∧ Below w.heap.size w wr)
  case atStart => exact ⟨0, ⟨#[]⟩, by omega, rfl, rfl, by
      show _ = _
      rfl, by rw [← HLe.out]; exact Hbox.out, HB0.out⟩
  case round =>
    obtain ⟨k, S, hk, rfl, rfl, hS, hA, hB⟩ := hrel
    have k0 : (0 : Int) ≤ (k : Int) := by omega
    have HB := Lib.hid hB
    have HS := Lib.hid hS.out
    have HA := Lib.hid hA
    clear hB hS hA
    cases gk with
    | zero =>
      have k1 : ¬ (k : Int) < 4 := by omega
      have hf : S = bs (print4L L) := by rw [HS.out, List.take_of_length_le (by rw [HL4.out]; omega)]
      have HF := Lib.hid hf
      clear hf
      go_wp2_with fail
      go_ret
      rw [HF.out, HLe.out]
      exact ⟨rfl, HB.out⟩
    | succ g =>
      have k1 : (k : Int) < 4 := by omega
      have hkl : k < L.length := by rw [HL4.out]; omega
      obtain ⟨x, hx⟩ : ∃ x, L[k]? = some x := ⟨_, List.getElem?_eq_getElem hkl⟩
      have hx9 : x ≤ 255 := Hl.out x (by rw [HLe.out]; exact List.mem_of_getElem? hx)
      have hcell := HA.out.cell hx
      have hcd := decimal_any x wr (by omega)
      have Cd := Lib.hid hcd
      have hSl : S.size ≤ 1000 := by
        rw [HS.out, bs_size]
        exact print4_len (by rw [List.length_take]; omega) fun y hy => Hl.out y (by rw [HLe.out]; exact List.mem_of_mem_take hy)
      have hdl := dcl_len x
      obtain ⟨D, hD⟩ : ∃ D, bs (dcl x) = D := ⟨_, rfl⟩
      by_cases hz : k = 0
      · subst hz
        have e0 : S = ⟨#[]⟩ := by rw [HS.out]; rfl
        subst e0
        have a1 : ∀ W, (Op.stringOp .add ⟨#[]⟩ D).run Tryd.prog W = .ok (.string D) W := fun W => by
          have h := add_two [] (dcl x) (dcl x) (by simp; omega) rfl W
          rw [hD] at h
          exact h
        have z1 : ¬ (((0 : Nat) : Int) > 0) := by decide
        have hfin : D = bs (print4L (L.take (0 + 1))) := by
          rw [take_succ_getD hx, ← hD]
          rfl
        have HF := Lib.hid hfin
        have Cd2 := Lib.hid (show Calls Tryd.prog 35 #[.int .i64 x] wr fun e w' => e = .returned (.string D) ∧ Below wr.heap.size wr w' from by rw [← hD]; exact Cd.out)
        clear Cd hcd hx hD hfin hkl hSl hdl
        go_wp2_with fail
        refine Cd2.out.mono ?_
        rintro e w2 ⟨rfl, hB2⟩
        have HA2 := Lib.hid (HA.out.later hB2)
        have HB2 := Lib.hid (HB.out.trans (hB2.mono HB.out.size))
        clear hB2
        go_wp2_with fail
        go_roundg g
        case measure => omega
        case rel => exact ⟨0 + 1, D, by omega, rfl, by go_num, HF.out, HA2.out, HB2.out⟩
      · have z1 : (k : Int) > 0 := by omega
        obtain ⟨E1, hE1⟩ : ∃ E, S ++ ⟨#[46]⟩ = E := ⟨_, rfl⟩
        obtain ⟨E2, hE2⟩ : ∃ E, E1 ++ D = E := ⟨_, rfl⟩
        have hE1s : E1.size ≤ 1001 := by rw [← hE1, ByteArray.size_append]; show S.size + 1 ≤ _; omega
        have a1 : ∀ W, (Op.stringOp .add S ⟨#[46]⟩).run Tryd.prog W = .ok (.string E1) W := fun W => add_strs (by show S.size + 1 ≤ _; omega) hE1 W
        have a2 : ∀ W, (Op.stringOp .add E1 D).run Tryd.prog W = .ok (.string E2) W := fun W => add_strs (by rw [← hD, bs_size]; omega) hE2 W
        have hfin : E2 = bs (print4L (L.take (k + 1))) := by
          rw [take_succ_getD hx, ← hE2, ← hE1, HS.out, ← hD]
          unfold print4L
          rw [List.map_append, List.map_singleton, joinL_snoc _ _ _ (by
            intro e
            have := congrArg List.length e
            rw [List.length_map, List.length_take] at this
            simp only [List.length_nil] at this
            omega)]
          show bs _ ++ bs [46] ++ bs _ = _
          rw [bs_append, bs_append]
          simp
        have HF := Lib.hid hfin
        have Cd2 := Lib.hid (show Calls Tryd.prog 35 #[.int .i64 x] wr fun e w' => e = .returned (.string D) ∧ Below wr.heap.size wr w' from by rw [← hD]; exact Cd.out)
        clear Cd hcd hx hD hfin hkl hSl hdl hE1 hE2 hE1s hz
        go_wp2_with fail
        refine Cd2.out.mono ?_
        rintro e w2 ⟨rfl, hB2⟩
        have HA2 := Lib.hid (HA.out.later hB2)
        have HB2 := Lib.hid (HB.out.trans (hB2.mono HB.out.size))
        clear hB2
        go_wp2_with fail
        go_roundg g
        case measure => omega
        case rel => exact ⟨k + 1, E2, by omega, rfl, by go_num, HF.out, HA2.out, HB2.out⟩
end Go.Proofs.YtoldhhaplndkcaaDoor
