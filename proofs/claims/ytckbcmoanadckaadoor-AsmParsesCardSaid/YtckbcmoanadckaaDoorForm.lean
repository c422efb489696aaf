/- The form of each known code. -/
import Derived.Test.YtckbcmoanadckaaDoorCodes
import Derived.Deep.QuietTactic
import Derived.BigQuiet
namespace Go.Proofs.YtckbcmoanadckaaDoor
open Go.RowKit Go.Shelf
set_option linter.unusedVariables false
set_option linter.unusedSimpArgs false

def rawL : List UInt8 := [114, 97, 119, 32, 67, 32, 84, 32, 70, 32, 75]
def formL : Nat → List UInt8
  | 0 => [108, 100, 32, 35, 75]
  | 1 => [108, 100, 120, 32, 35, 75]
  | 2 => [115, 116, 32, 77, 91, 75, 93]
  | 3 => [115, 116, 120, 32, 77, 91, 75, 93]
  | 4 => [97, 100, 100, 32, 35, 75]
  | 5 => [106, 97, 32, 75]
  | 6 => [114, 101, 116, 32, 35, 75]
  | 7 => [116, 97, 120]
  | 12 => [97, 100, 100, 32, 120]
  | 20 => [115, 117, 98, 32, 35, 75]
  | 21 => [106, 101, 113, 32, 35, 75, 32, 84, 32, 70]
  | 22 => [114, 101, 116, 32, 97]
  | 28 => [115, 117, 98, 32, 120]
  | 29 => [106, 101, 113, 32, 120, 32, 84, 32, 70]
  | 32 => [108, 100, 32, 91, 75, 93]
  | 36 => [109, 117, 108, 32, 35, 75]
  | 37 => [106, 103, 116, 32, 35, 75, 32, 84, 32, 70]
  | 40 => [108, 100, 104, 32, 91, 75, 93]
  | 44 => [109, 117, 108, 32, 120]
  | 45 => [106, 103, 116, 32, 120, 32, 84, 32, 70]
  | 48 => [108, 100, 98, 32, 91, 75, 93]
  | 52 => [100, 105, 118, 32, 35, 75]
  | 53 => [106, 103, 101, 32, 35, 75, 32, 84, 32, 70]
  | 60 => [100, 105, 118, 32, 120]
  | 61 => [106, 103, 101, 32, 120, 32, 84, 32, 70]
  | 64 => [108, 100, 32, 91, 120, 43, 75, 93]
  | 68 => [111, 114, 32, 35, 75]
  | 69 => [106, 115, 101, 116, 32, 35, 75, 32, 84, 32, 70]
  | 72 => [108, 100, 104, 32, 91, 120, 43, 75, 93]
  | 76 => [111, 114, 32, 120]
  | 77 => [106, 115, 101, 116, 32, 120, 32, 84, 32, 70]
  | 80 => [108, 100, 98, 32, 91, 120, 43, 75, 93]
  | 84 => [97, 110, 100, 32, 35, 75]
  | 92 => [97, 110, 100, 32, 120]
  | 96 => [108, 100, 32, 77, 91, 75, 93]
  | 97 => [108, 100, 120, 32, 77, 91, 75, 93]
  | 100 => [108, 115, 104, 32, 35, 75]
  | 108 => [108, 115, 104, 32, 120]
  | 116 => [114, 115, 104, 32, 35, 75]
  | 124 => [114, 115, 104, 32, 120]
  | 128 => [108, 100, 32, 108, 101, 110]
  | 129 => [108, 100, 120, 32, 108, 101, 110]
  | 132 => [110, 101, 103]
  | 135 => [116, 120, 97]
  | 148 => [109, 111, 100, 32, 35, 75]
  | 156 => [109, 111, 100, 32, 120]
  | 164 => [120, 111, 114, 32, 35, 75]
  | 172 => [120, 111, 114, 32, 120]
  | 177 => [108, 100, 120, 98, 32, 52, 42, 40, 91, 75, 93, 38, 49, 53, 41]
  | _ => rawL
def allL : List Nat := [0, 1, 2, 3, 4, 5, 6, 7, 12, 20, 21, 22, 28, 29, 32, 36, 37, 40, 44, 45, 48, 52, 53, 60, 61, 64, 68, 69, 72, 76, 77, 80, 84, 92, 96, 97, 100, 108, 116, 124, 128, 129, 132, 135, 148, 156, 164, 172, 177]
theorem all_known (c : Nat) : knownB c = allL.contains c := by
  have h : ∀ x, (x ∈ knL ++ aluL ++ testL ↔ x ∈ allL) := by
    intro x
    constructor
    · intro hx
      have h1 : ∀ x ∈ knL ++ aluL ++ testL, x ∈ allL := by decide
      exact h1 x hx
    · intro hx
      have h1 : ∀ x ∈ allL, x ∈ knL ++ aluL ++ testL := by decide
      exact h1 x hx
  unfold knownB
  rw [Bool.eq_iff_iff]
  have := h c
  simp only [List.mem_append] at this
  simp only [Bool.or_eq_true, List.contains_iff_mem]
  exact this
theorem side_any (c : Int) (x : Bool) (w : World) (h : (bits .and .u16 c 8 != 0) = x) : Calls Tryd.prog 60 #[.int .u16 c] w fun e w' => e = .returned (.string (if x then ⟨#[32, 120]⟩ else ⟨#[32, 35, 75]⟩)) ∧ w' = w := by
  obtain ⟨b, hb⟩ : ∃ b, bits .and .u16 c 8 = b := ⟨_, rfl⟩
  rw [hb] at h
  cases x with
  | true =>
    have h2 : (b == 0) = false := by simpa using h
    go_enter Tryd.func60, Tryd.ntmps60
    go_wp2_with fail
    go_ret
    exact ⟨rfl, rfl⟩
  | false =>
    have h2 : b = 0 := by simpa using h
    subst h2
    go_enter Tryd.func60, Tryd.ntmps60
    go_wp2_with fail
    go_ret
    exact ⟨rfl, rfl⟩
theorem class_any (c : Nat) (k : Int) (w : World) (hk : knownB c = true) (h : wrap64 (bits .and .u16 (c : Int) 7) = k) : Calls Tryd.prog 47 #[.int .u16 c] w fun e w' => e = .returned (.int .i64 k) ∧ w = w' := by
  have ck := known_any c w
  rw [hk] at ck
  have C := Lib.hid ck
  have H := Lib.hid h
  clear ck h hk
  go_enter Tryd.func47, Tryd.ntmps47
  go_wp2_with fail
  refine C.out.mono ?_
  rintro e w2 ⟨rfl, rfl⟩
  go_wp2_with fail
  go_ret
  rw [← H.out]
  exact ⟨rfl, rfl⟩
theorem belowN {B : Nat} {a w : World} (h : Below B a w) (n : Nat) : Below B a (w.drewN n) := h.trans ⟨rfl, rfl, rfl, Nat.le_refl _, fun _ _ => rfl⟩
theorem form_0 (w : World) : Calls Tryd.prog 24 #[.int .u16 0] w fun e w' => e = .returned (.string ⟨#[108, 100, 32, 35, 75]⟩) ∧ Below w.heap.size w w' := by
  have C : Hid (∀ w, Calls Tryd.prog 47 #[.int .u16 0] w fun e w' => e = .returned (.int .i64 0) ∧ w = w') := Lib.hid fun w => class_any 0 0 w (by decide) (by kernel_rfl)
  go_enter Tryd.func24, Tryd.ntmps24
  go_wp2_with fail
  refine (C.out _).mono ?_
  rintro e w2 ⟨rfl, rfl⟩
  go_wp2_with fail
  go_ret
  exact ⟨rfl, Below.refl _ _⟩
theorem other_1 (w : World) : Calls Tryd.prog 50 #[.int .u16 1] w fun e w' => e = .returned (.string ⟨#[108, 100, 120, 32, 35, 75]⟩) ∧ Below w.heap.size w w' := by
  go_enter Tryd.func50, Tryd.ntmps50
  go_wp2_with fail
  go_ret
  exact ⟨rfl, Below.refl _ _⟩
theorem form_1 (w : World) : Calls Tryd.prog 24 #[.int .u16 1] w fun e w' => e = .returned (.string ⟨#[108, 100, 120, 32, 35, 75]⟩) ∧ Below w.heap.size w w' := by
  have C : Hid (∀ w, Calls Tryd.prog 47 #[.int .u16 1] w fun e w' => e = .returned (.int .i64 1) ∧ w = w') := Lib.hid fun w => class_any 1 1 w (by decide) (by kernel_rfl)
  go_enter Tryd.func24, Tryd.ntmps24
  go_wp2_with fail
  refine (C.out _).mono ?_
  rintro e w2 ⟨rfl, rfl⟩
  go_wp2_with fail
  refine (other_1 _).mono ?_
  rintro e w2 ⟨rfl, hB⟩
  have HB := Lib.hid hB
  clear hB
  go_wp2_with fail
  go_ret
  exact ⟨rfl, HB.out⟩
theorem other_2 (w : World) : Calls Tryd.prog 50 #[.int .u16 2] w fun e w' => e = .returned (.string ⟨#[115, 116, 32, 77, 91, 75, 93]⟩) ∧ Below w.heap.size w w' := by
  go_enter Tryd.func50, Tryd.ntmps50
  go_wp2_with fail
  go_ret
  exact ⟨rfl, Below.refl _ _⟩
theorem form_2 (w : World) : Calls Tryd.prog 24 #[.int .u16 2] w fun e w' => e = .returned (.string ⟨#[115, 116, 32, 77, 91, 75, 93]⟩) ∧ Below w.heap.size w w' := by
  have C : Hid (∀ w, Calls Tryd.prog 47 #[.int .u16 2] w fun e w' => e = .returned (.int .i64 2) ∧ w = w') := Lib.hid fun w => class_any 2 2 w (by decide) (by kernel_rfl)
  go_enter Tryd.func24, Tryd.ntmps24
  go_wp2_with fail
  refine (C.out _).mono ?_
  rintro e w2 ⟨rfl, rfl⟩
  go_wp2_with fail
  refine (other_2 _).mono ?_
  rintro e w2 ⟨rfl, hB⟩
  have HB := Lib.hid hB
  clear hB
  go_wp2_with fail
  go_ret
  exact ⟨rfl, HB.out⟩
theorem other_3 (w : World) : Calls Tryd.prog 50 #[.int .u16 3] w fun e w' => e = .returned (.string ⟨#[115, 116, 120, 32, 77, 91, 75, 93]⟩) ∧ Below w.heap.size w w' := by
  go_enter Tryd.func50, Tryd.ntmps50
  go_wp2_with fail
  go_ret
  exact ⟨rfl, Below.refl _ _⟩
theorem form_3 (w : World) : Calls Tryd.prog 24 #[.int .u16 3] w fun e w' => e = .returned (.string ⟨#[115, 116, 120, 32, 77, 91, 75, 93]⟩) ∧ Below w.heap.size w w' := by
  have C : Hid (∀ w, Calls Tryd.prog 47 #[.int .u16 3] w fun e w' => e = .returned (.int .i64 3) ∧ w = w') := Lib.hid fun w => class_any 3 3 w (by decide) (by kernel_rfl)
  go_enter Tryd.func24, Tryd.ntmps24
  go_wp2_with fail
  refine (C.out _).mono ?_
  rintro e w2 ⟨rfl, rfl⟩
  go_wp2_with fail
  refine (other_3 _).mono ?_
  rintro e w2 ⟨rfl, hB⟩
  have HB := Lib.hid hB
  clear hB
  go_wp2_with fail
  go_ret
  exact ⟨rfl, HB.out⟩
theorem arith_4 (w : World) : Calls Tryd.prog 48 #[.int .u16 4] w fun e w' => e = .returned (.string ⟨#[97, 100, 100, 32, 35, 75]⟩) ∧ Below w.heap.size w w' := by
  go_enter Tryd.func48, Tryd.ntmps48
  go_wp2_with fail
  go_quiet ((go_at_call 60; exact Calls.quiet_of_same (side_any 4 false _ (by kernel_rfl))))
  go_wp2_with fail
  go_ret
  exact ⟨rfl, belowN ((Below.refl _ _).alloc (Nat.le_refl _) _) _⟩
theorem form_4 (w : World) : Calls Tryd.prog 24 #[.int .u16 4] w fun e w' => e = .returned (.string ⟨#[97, 100, 100, 32, 35, 75]⟩) ∧ Below w.heap.size w w' := by
  have C : Hid (∀ w, Calls Tryd.prog 47 #[.int .u16 4] w fun e w' => e = .returned (.int .i64 4) ∧ w = w') := Lib.hid fun w => class_any 4 4 w (by decide) (by kernel_rfl)
  go_enter Tryd.func24, Tryd.ntmps24
  go_wp2_with fail
  refine (C.out _).mono ?_
  rintro e w2 ⟨rfl, rfl⟩
  go_wp2_with fail
  refine (arith_4 _).mono ?_
  rintro e w2 ⟨rfl, hB⟩
  have HB := Lib.hid hB
  clear hB
  go_wp2_with fail
  go_ret
  exact ⟨rfl, HB.out⟩
theorem jump_5 (w : World) : Calls Tryd.prog 49 #[.int .u16 5] w fun e w' => e = .returned (.string ⟨#[106, 97, 32, 75]⟩) ∧ Below w.heap.size w w' := by
  go_enter Tryd.func49, Tryd.ntmps49
  go_wp2_with fail
  go_ret
  exact ⟨rfl, Below.refl _ _⟩
theorem form_5 (w : World) : Calls Tryd.prog 24 #[.int .u16 5] w fun e w' => e = .returned (.string ⟨#[106, 97, 32, 75]⟩) ∧ Below w.heap.size w w' := by
  have C : Hid (∀ w, Calls Tryd.prog 47 #[.int .u16 5] w fun e w' => e = .returned (.int .i64 5) ∧ w = w') := Lib.hid fun w => class_any 5 5 w (by decide) (by kernel_rfl)
  go_enter Tryd.func24, Tryd.ntmps24
  go_wp2_with fail
  refine (C.out _).mono ?_
  rintro e w2 ⟨rfl, rfl⟩
  go_wp2_with fail
  refine (jump_5 _).mono ?_
  rintro e w2 ⟨rfl, hB⟩
  have HB := Lib.hid hB
  clear hB
  go_wp2_with fail
  go_ret
  exact ⟨rfl, HB.out⟩
theorem other_6 (w : World) : Calls Tryd.prog 50 #[.int .u16 6] w fun e w' => e = .returned (.string ⟨#[114, 101, 116, 32, 35, 75]⟩) ∧ Below w.heap.size w w' := by
  go_enter Tryd.func50, Tryd.ntmps50
  go_wp2_with fail
  go_ret
  exact ⟨rfl, Below.refl _ _⟩
theorem form_6 (w : World) : Calls Tryd.prog 24 #[.int .u16 6] w fun e w' => e = .returned (.string ⟨#[114, 101, 116, 32, 35, 75]⟩) ∧ Below w.heap.size w w' := by
  have C : Hid (∀ w, Calls Tryd.prog 47 #[.int .u16 6] w fun e w' => e = .returned (.int .i64 6) ∧ w = w') := Lib.hid fun w => class_any 6 6 w (by decide) (by kernel_rfl)
  go_enter Tryd.func24, Tryd.ntmps24
  go_wp2_with fail
  refine (C.out _).mono ?_
  rintro e w2 ⟨rfl, rfl⟩
  go_wp2_with fail
  refine (other_6 _).mono ?_
  rintro e w2 ⟨rfl, hB⟩
  have HB := Lib.hid hB
  clear hB
  go_wp2_with fail
  go_ret
  exact ⟨rfl, HB.out⟩
theorem other_7 (w : World) : Calls Tryd.prog 50 #[.int .u16 7] w fun e w' => e = .returned (.string ⟨#[116, 97, 120]⟩) ∧ Below w.heap.size w w' := by
  go_enter Tryd.func50, Tryd.ntmps50
  go_wp2_with fail
  go_ret
  exact ⟨rfl, Below.refl _ _⟩
theorem form_7 (w : World) : Calls Tryd.prog 24 #[.int .u16 7] w fun e w' => e = .returned (.string ⟨#[116, 97, 120]⟩) ∧ Below w.heap.size w w' := by
  have C : Hid (∀ w, Calls Tryd.prog 47 #[.int .u16 7] w fun e w' => e = .returned (.int .i64 7) ∧ w = w') := Lib.hid fun w => class_any 7 7 w (by decide) (by kernel_rfl)
  go_enter Tryd.func24, Tryd.ntmps24
  go_wp2_with fail
  refine (C.out _).mono ?_
  rintro e w2 ⟨rfl, rfl⟩
  go_wp2_with fail
  refine (other_7 _).mono ?_
  rintro e w2 ⟨rfl, hB⟩
  have HB := Lib.hid hB
  clear hB
  go_wp2_with fail
  go_ret
  exact ⟨rfl, HB.out⟩
theorem arith_12 (w : World) : Calls Tryd.prog 48 #[.int .u16 12] w fun e w' => e = .returned (.string ⟨#[97, 100, 100, 32, 120]⟩) ∧ Below w.heap.size w w' := by
  go_enter Tryd.func48, Tryd.ntmps48
  go_wp2_with fail
  go_quiet ((go_at_call 60; exact Calls.quiet_of_same (side_any 12 true _ (by kernel_rfl))))
  go_wp2_with fail
  go_ret
  exact ⟨rfl, belowN ((Below.refl _ _).alloc (Nat.le_refl _) _) _⟩
theorem form_12 (w : World) : Calls Tryd.prog 24 #[.int .u16 12] w fun e w' => e = .returned (.string ⟨#[97, 100, 100, 32, 120]⟩) ∧ Below w.heap.size w w' := by
  have C : Hid (∀ w, Calls Tryd.prog 47 #[.int .u16 12] w fun e w' => e = .returned (.int .i64 4) ∧ w = w') := Lib.hid fun w => class_any 12 4 w (by decide) (by kernel_rfl)
  go_enter Tryd.func24, Tryd.ntmps24
  go_wp2_with fail
  refine (C.out _).mono ?_
  rintro e w2 ⟨rfl, rfl⟩
  go_wp2_with fail
  refine (arith_12 _).mono ?_
  rintro e w2 ⟨rfl, hB⟩
  have HB := Lib.hid hB
  clear hB
  go_wp2_with fail
  go_ret
  exact ⟨rfl, HB.out⟩
theorem arith_20 (w : World) : Calls Tryd.prog 48 #[.int .u16 20] w fun e w' => e = .returned (.string ⟨#[115, 117, 98, 32, 35, 75]⟩) ∧ Below w.heap.size w w' := by
  go_enter Tryd.func48, Tryd.ntmps48
  go_wp2_with fail
  go_quiet ((go_at_call 60; exact Calls.quiet_of_same (side_any 20 false _ (by kernel_rfl))))
  go_wp2_with fail
  go_ret
  exact ⟨rfl, belowN ((Below.refl _ _).alloc (Nat.le_refl _) _) _⟩
theorem form_20 (w : World) : Calls Tryd.prog 24 #[.int .u16 20] w fun e w' => e = .returned (.string ⟨#[115, 117, 98, 32, 35, 75]⟩) ∧ Below w.heap.size w w' := by
  have C : Hid (∀ w, Calls Tryd.prog 47 #[.int .u16 20] w fun e w' => e = .returned (.int .i64 4) ∧ w = w') := Lib.hid fun w => class_any 20 4 w (by decide) (by kernel_rfl)
  go_enter Tryd.func24, Tryd.ntmps24
  go_wp2_with fail
  refine (C.out _).mono ?_
  rintro e w2 ⟨rfl, rfl⟩
  go_wp2_with fail
  refine (arith_20 _).mono ?_
  rintro e w2 ⟨rfl, hB⟩
  have HB := Lib.hid hB
  clear hB
  go_wp2_with fail
  go_ret
  exact ⟨rfl, HB.out⟩
theorem jump_21 (w : World) : Calls Tryd.prog 49 #[.int .u16 21] w fun e w' => e = .returned (.string ⟨#[106, 101, 113, 32, 35, 75, 32, 84, 32, 70]⟩) ∧ Below w.heap.size w w' := by
  go_enter Tryd.func49, Tryd.ntmps49
  go_wp2_with fail
  go_quiet ((go_at_call 60; exact Calls.quiet_of_same (side_any 21 false _ (by kernel_rfl))))
  go_wp2_with fail
  go_ret
  exact ⟨rfl, belowN ((Below.refl _ _).alloc (Nat.le_refl _) _) _⟩
theorem form_21 (w : World) : Calls Tryd.prog 24 #[.int .u16 21] w fun e w' => e = .returned (.string ⟨#[106, 101, 113, 32, 35, 75, 32, 84, 32, 70]⟩) ∧ Below w.heap.size w w' := by
  have C : Hid (∀ w, Calls Tryd.prog 47 #[.int .u16 21] w fun e w' => e = .returned (.int .i64 5) ∧ w = w') := Lib.hid fun w => class_any 21 5 w (by decide) (by kernel_rfl)
  go_enter Tryd.func24, Tryd.ntmps24
  go_wp2_with fail
  refine (C.out _).mono ?_
  rintro e w2 ⟨rfl, rfl⟩
  go_wp2_with fail
  refine (jump_21 _).mono ?_
  rintro e w2 ⟨rfl, hB⟩
  have HB := Lib.hid hB
  clear hB
  go_wp2_with fail
  go_ret
  exact ⟨rfl, HB.out⟩
theorem other_22 (w : World) : Calls Tryd.prog 50 #[.int .u16 22] w fun e w' => e = .returned (.string ⟨#[114, 101, 116, 32, 97]⟩) ∧ Below w.heap.size w w' := by
  go_enter Tryd.func50, Tryd.ntmps50
  go_wp2_with fail
  go_ret
  exact ⟨rfl, Below.refl _ _⟩
theorem form_22 (w : World) : Calls Tryd.prog 24 #[.int .u16 22] w fun e w' => e = .returned (.string ⟨#[114, 101, 116, 32, 97]⟩) ∧ Below w.heap.size w w' := by
  have C : Hid (∀ w, Calls Tryd.prog 47 #[.int .u16 22] w fun e w' => e = .returned (.int .i64 6) ∧ w = w') := Lib.hid fun w => class_any 22 6 w (by decide) (by kernel_rfl)
  go_enter Tryd.func24, Tryd.ntmps24
  go_wp2_with fail
  refine (C.out _).mono ?_
  rintro e w2 ⟨rfl, rfl⟩
  go_wp2_with fail
  refine (other_22 _).mono ?_
  rintro e w2 ⟨rfl, hB⟩
  have HB := Lib.hid hB
  clear hB
  go_wp2_with fail
  go_ret
  exact ⟨rfl, HB.out⟩
theorem arith_28 (w : World) : Calls Tryd.prog 48 #[.int .u16 28] w fun e w' => e = .returned (.string ⟨#[115, 117, 98, 32, 120]⟩) ∧ Below w.heap.size w w' := by
  go_enter Tryd.func48, Tryd.ntmps48
  go_wp2_with fail
  go_quiet ((go_at_call 60; exact Calls.quiet_of_same (side_any 28 true _ (by kernel_rfl))))
  go_wp2_with fail
  go_ret
  exact ⟨rfl, belowN ((Below.refl _ _).alloc (Nat.le_refl _) _) _⟩
theorem form_28 (w : World) : Calls Tryd.prog 24 #[.int .u16 28] w fun e w' => e = .returned (.string ⟨#[115, 117, 98, 32, 120]⟩) ∧ Below w.heap.size w w' := by
  have C : Hid (∀ w, Calls Tryd.prog 47 #[.int .u16 28] w fun e w' => e = .returned (.int .i64 4) ∧ w = w') := Lib.hid fun w => class_any 28 4 w (by decide) (by kernel_rfl)
  go_enter Tryd.func24, Tryd.ntmps24
  go_wp2_with fail
  refine (C.out _).mono ?_
  rintro e w2 ⟨rfl, rfl⟩
  go_wp2_with fail
  refine (arith_28 _).mono ?_
  rintro e w2 ⟨rfl, hB⟩
  have HB := Lib.hid hB
  clear hB
  go_wp2_with fail
  go_ret
  exact ⟨rfl, HB.out⟩
theorem jump_29 (w : World) : Calls Tryd.prog 49 #[.int .u16 29] w fun e w' => e = .returned (.string ⟨#[106, 101, 113, 32, 120, 32, 84, 32, 70]⟩) ∧ Below w.heap.size w w' := by
  go_enter Tryd.func49, Tryd.ntmps49
  go_wp2_with fail
  go_quiet ((go_at_call 60; exact Calls.quiet_of_same (side_any 29 true _ (by kernel_rfl))))
  go_wp2_with fail
  go_ret
  exact ⟨rfl, belowN ((Below.refl _ _).alloc (Nat.le_refl _) _) _⟩
theorem form_29 (w : World) : Calls Tryd.prog 24 #[.int .u16 29] w fun e w' => e = .returned (.string ⟨#[106, 101, 113, 32, 120, 32, 84, 32, 70]⟩) ∧ Below w.heap.size w w' := by
  have C : Hid (∀ w, Calls Tryd.prog 47 #[.int .u16 29] w fun e w' => e = .returned (.int .i64 5) ∧ w = w') := Lib.hid fun w => class_any 29 5 w (by decide) (by kernel_rfl)
  go_enter Tryd.func24, Tryd.ntmps24
  go_wp2_with fail
  refine (C.out _).mono ?_
  rintro e w2 ⟨rfl, rfl⟩
  go_wp2_with fail
  refine (jump_29 _).mono ?_
  rintro e w2 ⟨rfl, hB⟩
  have HB := Lib.hid hB
  clear hB
  go_wp2_with fail
  go_ret
  exact ⟨rfl, HB.out⟩
theorem form_32 (w : World) : Calls Tryd.prog 24 #[.int .u16 32] w fun e w' => e = .returned (.string ⟨#[108, 100, 32, 91, 75, 93]⟩) ∧ Below w.heap.size w w' := by
  have C : Hid (∀ w, Calls Tryd.prog 47 #[.int .u16 32] w fun e w' => e = .returned (.int .i64 0) ∧ w = w') := Lib.hid fun w => class_any 32 0 w (by decide) (by kernel_rfl)
  go_enter Tryd.func24, Tryd.ntmps24
  go_wp2_with fail
  refine (C.out _).mono ?_
  rintro e w2 ⟨rfl, rfl⟩
  go_wp2_with fail
  go_ret
  exact ⟨rfl, Below.refl _ _⟩
theorem arith_36 (w : World) : Calls Tryd.prog 48 #[.int .u16 36] w fun e w' => e = .returned (.string ⟨#[109, 117, 108, 32, 35, 75]⟩) ∧ Below w.heap.size w w' := by
  go_enter Tryd.func48, Tryd.ntmps48
  go_wp2_with fail
  go_quiet ((go_at_call 60; exact Calls.quiet_of_same (side_any 36 false _ (by kernel_rfl))))
  go_wp2_with fail
  go_ret
  exact ⟨rfl, belowN ((Below.refl _ _).alloc (Nat.le_refl _) _) _⟩
theorem form_36 (w : World) : Calls Tryd.prog 24 #[.int .u16 36] w fun e w' => e = .returned (.string ⟨#[109, 117, 108, 32, 35, 75]⟩) ∧ Below w.heap.size w w' := by
  have C : Hid (∀ w, Calls Tryd.prog 47 #[.int .u16 36] w fun e w' => e = .returned (.int .i64 4) ∧ w = w') := Lib.hid fun w => class_any 36 4 w (by decide) (by kernel_rfl)
  go_enter Tryd.func24, Tryd.ntmps24
  go_wp2_with fail
  refine (C.out _).mono ?_
  rintro e w2 ⟨rfl, rfl⟩
  go_wp2_with fail
  refine (arith_36 _).mono ?_
  rintro e w2 ⟨rfl, hB⟩
  have HB := Lib.hid hB
  clear hB
  go_wp2_with fail
  go_ret
  exact ⟨rfl, HB.out⟩
theorem jump_37 (w : World) : Calls Tryd.prog 49 #[.int .u16 37] w fun e w' => e = .returned (.string ⟨#[106, 103, 116, 32, 35, 75, 32, 84, 32, 70]⟩) ∧ Below w.heap.size w w' := by
  go_enter Tryd.func49, Tryd.ntmps49
  go_wp2_with fail
  go_quiet ((go_at_call 60; exact Calls.quiet_of_same (side_any 37 false _ (by kernel_rfl))))
  go_wp2_with fail
  go_ret
  exact ⟨rfl, belowN ((Below.refl _ _).alloc (Nat.le_refl _) _) _⟩
theorem form_37 (w : World) : Calls Tryd.prog 24 #[.int .u16 37] w fun e w' => e = .returned (.string ⟨#[106, 103, 116, 32, 35, 75, 32, 84, 32, 70]⟩) ∧ Below w.heap.size w w' := by
  have C : Hid (∀ w, Calls Tryd.prog 47 #[.int .u16 37] w fun e w' => e = .returned (.int .i64 5) ∧ w = w') := Lib.hid fun w => class_any 37 5 w (by decide) (by kernel_rfl)
  go_enter Tryd.func24, Tryd.ntmps24
  go_wp2_with fail
  refine (C.out _).mono ?_
  rintro e w2 ⟨rfl, rfl⟩
  go_wp2_with fail
  refine (jump_37 _).mono ?_
  rintro e w2 ⟨rfl, hB⟩
  have HB := Lib.hid hB
  clear hB
  go_wp2_with fail
  go_ret
  exact ⟨rfl, HB.out⟩
theorem form_40 (w : World) : Calls Tryd.prog 24 #[.int .u16 40] w fun e w' => e = .returned (.string ⟨#[108, 100, 104, 32, 91, 75, 93]⟩) ∧ Below w.heap.size w w' := by
  have C : Hid (∀ w, Calls Tryd.prog 47 #[.int .u16 40] w fun e w' => e = .returned (.int .i64 0) ∧ w = w') := Lib.hid fun w => class_any 40 0 w (by decide) (by kernel_rfl)
  go_enter Tryd.func24, Tryd.ntmps24
  go_wp2_with fail
  refine (C.out _).mono ?_
  rintro e w2 ⟨rfl, rfl⟩
  go_wp2_with fail
  go_ret
  exact ⟨rfl, Below.refl _ _⟩
theorem arith_44 (w : World) : Calls Tryd.prog 48 #[.int .u16 44] w fun e w' => e = .returned (.string ⟨#[109, 117, 108, 32, 120]⟩) ∧ Below w.heap.size w w' := by
  go_enter Tryd.func48, Tryd.ntmps48
  go_wp2_with fail
  go_quiet ((go_at_call 60; exact Calls.quiet_of_same (side_any 44 true _ (by kernel_rfl))))
  go_wp2_with fail
  go_ret
  exact ⟨rfl, belowN ((Below.refl _ _).alloc (Nat.le_refl _) _) _⟩
theorem form_44 (w : World) : Calls Tryd.prog 24 #[.int .u16 44] w fun e w' => e = .returned (.string ⟨#[109, 117, 108, 32, 120]⟩) ∧ Below w.heap.size w w' := by
  have C : Hid (∀ w, Calls Tryd.prog 47 #[.int .u16 44] w fun e w' => e = .returned (.int .i64 4) ∧ w = w') := Lib.hid fun w => class_any 44 4 w (by decide) (by kernel_rfl)
  go_enter Tryd.func24, Tryd.ntmps24
  go_wp2_with fail
  refine (C.out _).mono ?_
  rintro e w2 ⟨rfl, rfl⟩
  go_wp2_with fail
  refine (arith_44 _).mono ?_
  rintro e w2 ⟨rfl, hB⟩
  have HB := Lib.hid hB
  clear hB
  go_wp2_with fail
  go_ret
  exact ⟨rfl, HB.out⟩
theorem jump_45 (w : World) : Calls Tryd.prog 49 #[.int .u16 45] w fun e w' => e = .returned (.string ⟨#[106, 103, 116, 32, 120, 32, 84, 32, 70]⟩) ∧ Below w.heap.size w w' := by
  go_enter Tryd.func49, Tryd.ntmps49
  go_wp2_with fail
  go_quiet ((go_at_call 60; exact Calls.quiet_of_same (side_any 45 true _ (by kernel_rfl))))
  go_wp2_with fail
  go_ret
  exact ⟨rfl, belowN ((Below.refl _ _).alloc (Nat.le_refl _) _) _⟩
theorem form_45 (w : World) : Calls Tryd.prog 24 #[.int .u16 45] w fun e w' => e = .returned (.string ⟨#[106, 103, 116, 32, 120, 32, 84, 32, 70]⟩) ∧ Below w.heap.size w w' := by
  have C : Hid (∀ w, Calls Tryd.prog 47 #[.int .u16 45] w fun e w' => e = .returned (.int .i64 5) ∧ w = w') := Lib.hid fun w => class_any 45 5 w (by decide) (by kernel_rfl)
  go_enter Tryd.func24, Tryd.ntmps24
  go_wp2_with fail
  refine (C.out _).mono ?_
  rintro e w2 ⟨rfl, rfl⟩
  go_wp2_with fail
  refine (jump_45 _).mono ?_
  rintro e w2 ⟨rfl, hB⟩
  have HB := Lib.hid hB
  clear hB
  go_wp2_with fail
  go_ret
  exact ⟨rfl, HB.out⟩
theorem form_48 (w : World) : Calls Tryd.prog 24 #[.int .u16 48] w fun e w' => e = .returned (.string ⟨#[108, 100, 98, 32, 91, 75, 93]⟩) ∧ Below w.heap.size w w' := by
  have C : Hid (∀ w, Calls Tryd.prog 47 #[.int .u16 48] w fun e w' => e = .returned (.int .i64 0) ∧ w = w') := Lib.hid fun w => class_any 48 0 w (by decide) (by kernel_rfl)
  go_enter Tryd.func24, Tryd.ntmps24
  go_wp2_with fail
  refine (C.out _).mono ?_
  rintro e w2 ⟨rfl, rfl⟩
  go_wp2_with fail
  go_ret
  exact ⟨rfl, Below.refl _ _⟩
theorem arith_52 (w : World) : Calls Tryd.prog 48 #[.int .u16 52] w fun e w' => e = .returned (.string ⟨#[100, 105, 118, 32, 35, 75]⟩) ∧ Below w.heap.size w w' := by
  go_enter Tryd.func48, Tryd.ntmps48
  go_wp2_with fail
  go_quiet ((go_at_call 60; exact Calls.quiet_of_same (side_any 52 false _ (by kernel_rfl))))
  go_wp2_with fail
  go_ret
  exact ⟨rfl, belowN ((Below.refl _ _).alloc (Nat.le_refl _) _) _⟩
theorem form_52 (w : World) : Calls Tryd.prog 24 #[.int .u16 52] w fun e w' => e = .returned (.string ⟨#[100, 105, 118, 32, 35, 75]⟩) ∧ Below w.heap.size w w' := by
  have C : Hid (∀ w, Calls Tryd.prog 47 #[.int .u16 52] w fun e w' => e = .returned (.int .i64 4) ∧ w = w') := Lib.hid fun w => class_any 52 4 w (by decide) (by kernel_rfl)
  go_enter Tryd.func24, Tryd.ntmps24
  go_wp2_with fail
  refine (C.out _).mono ?_
  rintro e w2 ⟨rfl, rfl⟩
  go_wp2_with fail
  refine (arith_52 _).mono ?_
  rintro e w2 ⟨rfl, hB⟩
  have HB := Lib.hid hB
  clear hB
  go_wp2_with fail
  go_ret
  exact ⟨rfl, HB.out⟩
theorem jump_53 (w : World) : Calls Tryd.prog 49 #[.int .u16 53] w fun e w' => e = .returned (.string ⟨#[106, 103, 101, 32, 35, 75, 32, 84, 32, 70]⟩) ∧ Below w.heap.size w w' := by
  go_enter Tryd.func49, Tryd.ntmps49
  go_wp2_with fail
  go_quiet ((go_at_call 60; exact Calls.quiet_of_same (side_any 53 false _ (by kernel_rfl))))
  go_wp2_with fail
  go_ret
  exact ⟨rfl, belowN ((Below.refl _ _).alloc (Nat.le_refl _) _) _⟩
theorem form_53 (w : World) : Calls Tryd.prog 24 #[.int .u16 53] w fun e w' => e = .returned (.string ⟨#[106, 103, 101, 32, 35, 75, 32, 84, 32, 70]⟩) ∧ Below w.heap.size w w' := by
  have C : Hid (∀ w, Calls Tryd.prog 47 #[.int .u16 53] w fun e w' => e = .returned (.int .i64 5) ∧ w = w') := Lib.hid fun w => class_any 53 5 w (by decide) (by kernel_rfl)
  go_enter Tryd.func24, Tryd.ntmps24
  go_wp2_with fail
  refine (C.out _).mono ?_
  rintro e w2 ⟨rfl, rfl⟩
  go_wp2_with fail
  refine (jump_53 _).mono ?_
  rintro e w2 ⟨rfl, hB⟩
  have HB := Lib.hid hB
  clear hB
  go_wp2_with fail
  go_ret
  exact ⟨rfl, HB.out⟩
theorem arith_60 (w : World) : Calls Tryd.prog 48 #[.int .u16 60] w fun e w' => e = .returned (.string ⟨#[100, 105, 118, 32, 120]⟩) ∧ Below w.heap.size w w' := by
  go_enter Tryd.func48, Tryd.ntmps48
  go_wp2_with fail
  go_quiet ((go_at_call 60; exact Calls.quiet_of_same (side_any 60 true _ (by kernel_rfl))))
  go_wp2_with fail
  go_ret
  exact ⟨rfl, belowN ((Below.refl _ _).alloc (Nat.le_refl _) _) _⟩
theorem form_60 (w : World) : Calls Tryd.prog 24 #[.int .u16 60] w fun e w' => e = .returned (.string ⟨#[100, 105, 118, 32, 120]⟩) ∧ Below w.heap.size w w' := by
  have C : Hid (∀ w, Calls Tryd.prog 47 #[.int .u16 60] w fun e w' => e = .returned (.int .i64 4) ∧ w = w') := Lib.hid fun w => class_any 60 4 w (by decide) (by kernel_rfl)
  go_enter Tryd.func24, Tryd.ntmps24
  go_wp2_with fail
  refine (C.out _).mono ?_
  rintro e w2 ⟨rfl, rfl⟩
  go_wp2_with fail
  refine (arith_60 _).mono ?_
  rintro e w2 ⟨rfl, hB⟩
  have HB := Lib.hid hB
  clear hB
  go_wp2_with fail
  go_ret
  exact ⟨rfl, HB.out⟩
theorem jump_61 (w : World) : Calls Tryd.prog 49 #[.int .u16 61] w fun e w' => e = .returned (.string ⟨#[106, 103, 101, 32, 120, 32, 84, 32, 70]⟩) ∧ Below w.heap.size w w' := by
  go_enter Tryd.func49, Tryd.ntmps49
  go_wp2_with fail
  go_quiet ((go_at_call 60; exact Calls.quiet_of_same (side_any 61 true _ (by kernel_rfl))))
  go_wp2_with fail
  go_ret
  exact ⟨rfl, belowN ((Below.refl _ _).alloc (Nat.le_refl _) _) _⟩
theorem form_61 (w : World) : Calls Tryd.prog 24 #[.int .u16 61] w fun e w' => e = .returned (.string ⟨#[106, 103, 101, 32, 120, 32, 84, 32, 70]⟩) ∧ Below w.heap.size w w' := by
  have C : Hid (∀ w, Calls Tryd.prog 47 #[.int .u16 61] w fun e w' => e = .returned (.int .i64 5) ∧ w = w') := Lib.hid fun w => class_any 61 5 w (by decide) (by kernel_rfl)
  go_enter Tryd.func24, Tryd.ntmps24
  go_wp2_with fail
  refine (C.out _).mono ?_
  rintro e w2 ⟨rfl, rfl⟩
  go_wp2_with fail
  refine (jump_61 _).mono ?_
  rintro e w2 ⟨rfl, hB⟩
  have HB := Lib.hid hB
  clear hB
  go_wp2_with fail
  go_ret
  exact ⟨rfl, HB.out⟩
theorem form_64 (w : World) : Calls Tryd.prog 24 #[.int .u16 64] w fun e w' => e = .returned (.string ⟨#[108, 100, 32, 91, 120, 43, 75, 93]⟩) ∧ Below w.heap.size w w' := by
  have C : Hid (∀ w, Calls Tryd.prog 47 #[.int .u16 64] w fun e w' => e = .returned (.int .i64 0) ∧ w = w') := Lib.hid fun w => class_any 64 0 w (by decide) (by kernel_rfl)
  go_enter Tryd.func24, Tryd.ntmps24
  go_wp2_with fail
  refine (C.out _).mono ?_
  rintro e w2 ⟨rfl, rfl⟩
  go_wp2_with fail
  go_ret
  exact ⟨rfl, Below.refl _ _⟩
theorem arith_68 (w : World) : Calls Tryd.prog 48 #[.int .u16 68] w fun e w' => e = .returned (.string ⟨#[111, 114, 32, 35, 75]⟩) ∧ Below w.heap.size w w' := by
  go_enter Tryd.func48, Tryd.ntmps48
  go_wp2_with fail
  go_quiet ((go_at_call 60; exact Calls.quiet_of_same (side_any 68 false _ (by kernel_rfl))))
  go_wp2_with fail
  go_ret
  exact ⟨rfl, belowN ((Below.refl _ _).alloc (Nat.le_refl _) _) _⟩
theorem form_68 (w : World) : Calls Tryd.prog 24 #[.int .u16 68] w fun e w' => e = .returned (.string ⟨#[111, 114, 32, 35, 75]⟩) ∧ Below w.heap.size w w' := by
  have C : Hid (∀ w, Calls Tryd.prog 47 #[.int .u16 68] w fun e w' => e = .returned (.int .i64 4) ∧ w = w') := Lib.hid fun w => class_any 68 4 w (by decide) (by kernel_rfl)
  go_enter Tryd.func24, Tryd.ntmps24
  go_wp2_with fail
  refine (C.out _).mono ?_
  rintro e w2 ⟨rfl, rfl⟩
  go_wp2_with fail
  refine (arith_68 _).mono ?_
  rintro e w2 ⟨rfl, hB⟩
  have HB := Lib.hid hB
  clear hB
  go_wp2_with fail
  go_ret
  exact ⟨rfl, HB.out⟩
theorem jump_69 (w : World) : Calls Tryd.prog 49 #[.int .u16 69] w fun e w' => e = .returned (.string ⟨#[106, 115, 101, 116, 32, 35, 75, 32, 84, 32, 70]⟩) ∧ Below w.heap.size w w' := by
  go_enter Tryd.func49, Tryd.ntmps49
  go_wp2_with fail
  go_quiet ((go_at_call 60; exact Calls.quiet_of_same (side_any 69 false _ (by kernel_rfl))))
  go_wp2_with fail
  go_ret
  exact ⟨rfl, belowN ((Below.refl _ _).alloc (Nat.le_refl _) _) _⟩
theorem form_69 (w : World) : Calls Tryd.prog 24 #[.int .u16 69] w fun e w' => e = .returned (.string ⟨#[106, 115, 101, 116, 32, 35, 75, 32, 84, 32, 70]⟩) ∧ Below w.heap.size w w' := by
  have C : Hid (∀ w, Calls Tryd.prog 47 #[.int .u16 69] w fun e w' => e = .returned (.int .i64 5) ∧ w = w') := Lib.hid fun w => class_any 69 5 w (by decide) (by kernel_rfl)
  go_enter Tryd.func24, Tryd.ntmps24
  go_wp2_with fail
  refine (C.out _).mono ?_
  rintro e w2 ⟨rfl, rfl⟩
  go_wp2_with fail
  refine (jump_69 _).mono ?_
  rintro e w2 ⟨rfl, hB⟩
  have HB := Lib.hid hB
  clear hB
  go_wp2_with fail
  go_ret
  exact ⟨rfl, HB.out⟩
theorem form_72 (w : World) : Calls Tryd.prog 24 #[.int .u16 72] w fun e w' => e = .returned (.string ⟨#[108, 100, 104, 32, 91, 120, 43, 75, 93]⟩) ∧ Below w.heap.size w w' := by
  have C : Hid (∀ w, Calls Tryd.prog 47 #[.int .u16 72] w fun e w' => e = .returned (.int .i64 0) ∧ w = w') := Lib.hid fun w => class_any 72 0 w (by decide) (by kernel_rfl)
  go_enter Tryd.func24, Tryd.ntmps24
  go_wp2_with fail
  refine (C.out _).mono ?_
  rintro e w2 ⟨rfl, rfl⟩
  go_wp2_with fail
  go_ret
  exact ⟨rfl, Below.refl _ _⟩
theorem arith_76 (w : World) : Calls Tryd.prog 48 #[.int .u16 76] w fun e w' => e = .returned (.string ⟨#[111, 114, 32, 120]⟩) ∧ Below w.heap.size w w' := by
  go_enter Tryd.func48, Tryd.ntmps48
  go_wp2_with fail
  go_quiet ((go_at_call 60; exact Calls.quiet_of_same (side_any 76 true _ (by kernel_rfl))))
  go_wp2_with fail
  go_ret
  exact ⟨rfl, belowN ((Below.refl _ _).alloc (Nat.le_refl _) _) _⟩
theorem form_76 (w : World) : Calls Tryd.prog 24 #[.int .u16 76] w fun e w' => e = .returned (.string ⟨#[111, 114, 32, 120]⟩) ∧ Below w.heap.size w w' := by
  have C : Hid (∀ w, Calls Tryd.prog 47 #[.int .u16 76] w fun e w' => e = .returned (.int .i64 4) ∧ w = w') := Lib.hid fun w => class_any 76 4 w (by decide) (by kernel_rfl)
  go_enter Tryd.func24, Tryd.ntmps24
  go_wp2_with fail
  refine (C.out _).mono ?_
  rintro e w2 ⟨rfl, rfl⟩
  go_wp2_with fail
  refine (arith_76 _).mono ?_
  rintro e w2 ⟨rfl, hB⟩
  have HB := Lib.hid hB
  clear hB
  go_wp2_with fail
  go_ret
  exact ⟨rfl, HB.out⟩
theorem jump_77 (w : World) : Calls Tryd.prog 49 #[.int .u16 77] w fun e w' => e = .returned (.string ⟨#[106, 115, 101, 116, 32, 120, 32, 84, 32, 70]⟩) ∧ Below w.heap.size w w' := by
  go_enter Tryd.func49, Tryd.ntmps49
  go_wp2_with fail
  go_quiet ((go_at_call 60; exact Calls.quiet_of_same (side_any 77 true _ (by kernel_rfl))))
  go_wp2_with fail
  go_ret
  exact ⟨rfl, belowN ((Below.refl _ _).alloc (Nat.le_refl _) _) _⟩
theorem form_77 (w : World) : Calls Tryd.prog 24 #[.int .u16 77] w fun e w' => e = .returned (.string ⟨#[106, 115, 101, 116, 32, 120, 32, 84, 32, 70]⟩) ∧ Below w.heap.size w w' := by
  have C : Hid (∀ w, Calls Tryd.prog 47 #[.int .u16 77] w fun e w' => e = .returned (.int .i64 5) ∧ w = w') := Lib.hid fun w => class_any 77 5 w (by decide) (by kernel_rfl)
  go_enter Tryd.func24, Tryd.ntmps24
  go_wp2_with fail
  refine (C.out _).mono ?_
  rintro e w2 ⟨rfl, rfl⟩
  go_wp2_with fail
  refine (jump_77 _).mono ?_
  rintro e w2 ⟨rfl, hB⟩
  have HB := Lib.hid hB
  clear hB
  go_wp2_with fail
  go_ret
  exact ⟨rfl, HB.out⟩
theorem form_80 (w : World) : Calls Tryd.prog 24 #[.int .u16 80] w fun e w' => e = .returned (.string ⟨#[108, 100, 98, 32, 91, 120, 43, 75, 93]⟩) ∧ Below w.heap.size w w' := by
  have C : Hid (∀ w, Calls Tryd.prog 47 #[.int .u16 80] w fun e w' => e = .returned (.int .i64 0) ∧ w = w') := Lib.hid fun w => class_any 80 0 w (by decide) (by kernel_rfl)
  go_enter Tryd.func24, Tryd.ntmps24
  go_wp2_with fail
  refine (C.out _).mono ?_
  rintro e w2 ⟨rfl, rfl⟩
  go_wp2_with fail
  go_ret
  exact ⟨rfl, Below.refl _ _⟩
theorem arith_84 (w : World) : Calls Tryd.prog 48 #[.int .u16 84] w fun e w' => e = .returned (.string ⟨#[97, 110, 100, 32, 35, 75]⟩) ∧ Below w.heap.size w w' := by
  go_enter Tryd.func48, Tryd.ntmps48
  go_wp2_with fail
  go_quiet ((go_at_call 60; exact Calls.quiet_of_same (side_any 84 false _ (by kernel_rfl))))
  go_wp2_with fail
  go_ret
  exact ⟨rfl, belowN ((Below.refl _ _).alloc (Nat.le_refl _) _) _⟩
theorem form_84 (w : World) : Calls Tryd.prog 24 #[.int .u16 84] w fun e w' => e = .returned (.string ⟨#[97, 110, 100, 32, 35, 75]⟩) ∧ Below w.heap.size w w' := by
  have C : Hid (∀ w, Calls Tryd.prog 47 #[.int .u16 84] w fun e w' => e = .returned (.int .i64 4) ∧ w = w') := Lib.hid fun w => class_any 84 4 w (by decide) (by kernel_rfl)
  go_enter Tryd.func24, Tryd.ntmps24
  go_wp2_with fail
  refine (C.out _).mono ?_
  rintro e w2 ⟨rfl, rfl⟩
  go_wp2_with fail
  refine (arith_84 _).mono ?_
  rintro e w2 ⟨rfl, hB⟩
  have HB := Lib.hid hB
  clear hB
  go_wp2_with fail
  go_ret
  exact ⟨rfl, HB.out⟩
theorem arith_92 (w : World) : Calls Tryd.prog 48 #[.int .u16 92] w fun e w' => e = .returned (.string ⟨#[97, 110, 100, 32, 120]⟩) ∧ Below w.heap.size w w' := by
  go_enter Tryd.func48, Tryd.ntmps48
  go_wp2_with fail
  go_quiet ((go_at_call 60; exact Calls.quiet_of_same (side_any 92 true _ (by kernel_rfl))))
  go_wp2_with fail
  go_ret
  exact ⟨rfl, belowN ((Below.refl _ _).alloc (Nat.le_refl _) _) _⟩
theorem form_92 (w : World) : Calls Tryd.prog 24 #[.int .u16 92] w fun e w' => e = .returned (.string ⟨#[97, 110, 100, 32, 120]⟩) ∧ Below w.heap.size w w' := by
  have C : Hid (∀ w, Calls Tryd.prog 47 #[.int .u16 92] w fun e w' => e = .returned (.int .i64 4) ∧ w = w') := Lib.hid fun w => class_any 92 4 w (by decide) (by kernel_rfl)
  go_enter Tryd.func24, Tryd.ntmps24
  go_wp2_with fail
  refine (C.out _).mono ?_
  rintro e w2 ⟨rfl, rfl⟩
  go_wp2_with fail
  refine (arith_92 _).mono ?_
  rintro e w2 ⟨rfl, hB⟩
  have HB := Lib.hid hB
  clear hB
  go_wp2_with fail
  go_ret
  exact ⟨rfl, HB.out⟩
theorem form_96 (w : World) : Calls Tryd.prog 24 #[.int .u16 96] w fun e w' => e = .returned (.string ⟨#[108, 100, 32, 77, 91, 75, 93]⟩) ∧ Below w.heap.size w w' := by
  have C : Hid (∀ w, Calls Tryd.prog 47 #[.int .u16 96] w fun e w' => e = .returned (.int .i64 0) ∧ w = w') := Lib.hid fun w => class_any 96 0 w (by decide) (by kernel_rfl)
  go_enter Tryd.func24, Tryd.ntmps24
  go_wp2_with fail
  refine (C.out _).mono ?_
  rintro e w2 ⟨rfl, rfl⟩
  go_wp2_with fail
  go_ret
  exact ⟨rfl, Below.refl _ _⟩
theorem other_97 (w : World) : Calls Tryd.prog 50 #[.int .u16 97] w fun e w' => e = .returned (.string ⟨#[108, 100, 120, 32, 77, 91, 75, 93]⟩) ∧ Below w.heap.size w w' := by
  go_enter Tryd.func50, Tryd.ntmps50
  go_wp2_with fail
  go_ret
  exact ⟨rfl, Below.refl _ _⟩
theorem form_97 (w : World) : Calls Tryd.prog 24 #[.int .u16 97] w fun e w' => e = .returned (.string ⟨#[108, 100, 120, 32, 77, 91, 75, 93]⟩) ∧ Below w.heap.size w w' := by
  have C : Hid (∀ w, Calls Tryd.prog 47 #[.int .u16 97] w fun e w' => e = .returned (.int .i64 1) ∧ w = w') := Lib.hid fun w => class_any 97 1 w (by decide) (by kernel_rfl)
  go_enter Tryd.func24, Tryd.ntmps24
  go_wp2_with fail
  refine (C.out _).mono ?_
  rintro e w2 ⟨rfl, rfl⟩
  go_wp2_with fail
  refine (other_97 _).mono ?_
  rintro e w2 ⟨rfl, hB⟩
  have HB := Lib.hid hB
  clear hB
  go_wp2_with fail
  go_ret
  exact ⟨rfl, HB.out⟩
theorem arith_100 (w : World) : Calls Tryd.prog 48 #[.int .u16 100] w fun e w' => e = .returned (.string ⟨#[108, 115, 104, 32, 35, 75]⟩) ∧ Below w.heap.size w w' := by
  go_enter Tryd.func48, Tryd.ntmps48
  go_wp2_with fail
  go_quiet ((go_at_call 60; exact Calls.quiet_of_same (side_any 100 false _ (by kernel_rfl))))
  go_wp2_with fail
  go_ret
  exact ⟨rfl, belowN ((Below.refl _ _).alloc (Nat.le_refl _) _) _⟩
theorem form_100 (w : World) : Calls Tryd.prog 24 #[.int .u16 100] w fun e w' => e = .returned (.string ⟨#[108, 115, 104, 32, 35, 75]⟩) ∧ Below w.heap.size w w' := by
  have C : Hid (∀ w, Calls Tryd.prog 47 #[.int .u16 100] w fun e w' => e = .returned (.int .i64 4) ∧ w = w') := Lib.hid fun w => class_any 100 4 w (by decide) (by kernel_rfl)
  go_enter Tryd.func24, Tryd.ntmps24
  go_wp2_with fail
  refine (C.out _).mono ?_
  rintro e w2 ⟨rfl, rfl⟩
  go_wp2_with fail
  refine (arith_100 _).mono ?_
  rintro e w2 ⟨rfl, hB⟩
  have HB := Lib.hid hB
  clear hB
  go_wp2_with fail
  go_ret
  exact ⟨rfl, HB.out⟩
theorem arith_108 (w : World) : Calls Tryd.prog 48 #[.int .u16 108] w fun e w' => e = .returned (.string ⟨#[108, 115, 104, 32, 120]⟩) ∧ Below w.heap.size w w' := by
  go_enter Tryd.func48, Tryd.ntmps48
  go_wp2_with fail
  go_quiet ((go_at_call 60; exact Calls.quiet_of_same (side_any 108 true _ (by kernel_rfl))))
  go_wp2_with fail
  go_ret
  exact ⟨rfl, belowN ((Below.refl _ _).alloc (Nat.le_refl _) _) _⟩
theorem form_108 (w : World) : Calls Tryd.prog 24 #[.int .u16 108] w fun e w' => e = .returned (.string ⟨#[108, 115, 104, 32, 120]⟩) ∧ Below w.heap.size w w' := by
  have C : Hid (∀ w, Calls Tryd.prog 47 #[.int .u16 108] w fun e w' => e = .returned (.int .i64 4) ∧ w = w') := Lib.hid fun w => class_any 108 4 w (by decide) (by kernel_rfl)
  go_enter Tryd.func24, Tryd.ntmps24
  go_wp2_with fail
  refine (C.out _).mono ?_
  rintro e w2 ⟨rfl, rfl⟩
  go_wp2_with fail
  refine (arith_108 _).mono ?_
  rintro e w2 ⟨rfl, hB⟩
  have HB := Lib.hid hB
  clear hB
  go_wp2_with fail
  go_ret
  exact ⟨rfl, HB.out⟩
theorem arith_116 (w : World) : Calls Tryd.prog 48 #[.int .u16 116] w fun e w' => e = .returned (.string ⟨#[114, 115, 104, 32, 35, 75]⟩) ∧ Below w.heap.size w w' := by
  go_enter Tryd.func48, Tryd.ntmps48
  go_wp2_with fail
  go_quiet ((go_at_call 60; exact Calls.quiet_of_same (side_any 116 false _ (by kernel_rfl))))
  go_wp2_with fail
  go_ret
  exact ⟨rfl, belowN ((Below.refl _ _).alloc (Nat.le_refl _) _) _⟩
theorem form_116 (w : World) : Calls Tryd.prog 24 #[.int .u16 116] w fun e w' => e = .returned (.string ⟨#[114, 115, 104, 32, 35, 75]⟩) ∧ Below w.heap.size w w' := by
  have C : Hid (∀ w, Calls Tryd.prog 47 #[.int .u16 116] w fun e w' => e = .returned (.int .i64 4) ∧ w = w') := Lib.hid fun w => class_any 116 4 w (by decide) (by kernel_rfl)
  go_enter Tryd.func24, Tryd.ntmps24
  go_wp2_with fail
  refine (C.out _).mono ?_
  rintro e w2 ⟨rfl, rfl⟩
  go_wp2_with fail
  refine (arith_116 _).mono ?_
  rintro e w2 ⟨rfl, hB⟩
  have HB := Lib.hid hB
  clear hB
  go_wp2_with fail
  go_ret
  exact ⟨rfl, HB.out⟩
theorem arith_124 (w : World) : Calls Tryd.prog 48 #[.int .u16 124] w fun e w' => e = .returned (.string ⟨#[114, 115, 104, 32, 120]⟩) ∧ Below w.heap.size w w' := by
  go_enter Tryd.func48, Tryd.ntmps48
  go_wp2_with fail
  go_quiet ((go_at_call 60; exact Calls.quiet_of_same (side_any 124 true _ (by kernel_rfl))))
  go_wp2_with fail
  go_ret
  exact ⟨rfl, belowN ((Below.refl _ _).alloc (Nat.le_refl _) _) _⟩
theorem form_124 (w : World) : Calls Tryd.prog 24 #[.int .u16 124] w fun e w' => e = .returned (.string ⟨#[114, 115, 104, 32, 120]⟩) ∧ Below w.heap.size w w' := by
  have C : Hid (∀ w, Calls Tryd.prog 47 #[.int .u16 124] w fun e w' => e = .returned (.int .i64 4) ∧ w = w') := Lib.hid fun w => class_any 124 4 w (by decide) (by kernel_rfl)
  go_enter Tryd.func24, Tryd.ntmps24
  go_wp2_with fail
  refine (C.out _).mono ?_
  rintro e w2 ⟨rfl, rfl⟩
  go_wp2_with fail
  refine (arith_124 _).mono ?_
  rintro e w2 ⟨rfl, hB⟩
  have HB := Lib.hid hB
  clear hB
  go_wp2_with fail
  go_ret
  exact ⟨rfl, HB.out⟩
theorem form_128 (w : World) : Calls Tryd.prog 24 #[.int .u16 128] w fun e w' => e = .returned (.string ⟨#[108, 100, 32, 108, 101, 110]⟩) ∧ Below w.heap.size w w' := by
  have C : Hid (∀ w, Calls Tryd.prog 47 #[.int .u16 128] w fun e w' => e = .returned (.int .i64 0) ∧ w = w') := Lib.hid fun w => class_any 128 0 w (by decide) (by kernel_rfl)
  go_enter Tryd.func24, Tryd.ntmps24
  go_wp2_with fail
  refine (C.out _).mono ?_
  rintro e w2 ⟨rfl, rfl⟩
  go_wp2_with fail
  go_ret
  exact ⟨rfl, Below.refl _ _⟩
theorem other_129 (w : World) : Calls Tryd.prog 50 #[.int .u16 129] w fun e w' => e = .returned (.string ⟨#[108, 100, 120, 32, 108, 101, 110]⟩) ∧ Below w.heap.size w w' := by
  go_enter Tryd.func50, Tryd.ntmps50
  go_wp2_with fail
  go_ret
  exact ⟨rfl, Below.refl _ _⟩
theorem form_129 (w : World) : Calls Tryd.prog 24 #[.int .u16 129] w fun e w' => e = .returned (.string ⟨#[108, 100, 120, 32, 108, 101, 110]⟩) ∧ Below w.heap.size w w' := by
  have C : Hid (∀ w, Calls Tryd.prog 47 #[.int .u16 129] w fun e w' => e = .returned (.int .i64 1) ∧ w = w') := Lib.hid fun w => class_any 129 1 w (by decide) (by kernel_rfl)
  go_enter Tryd.func24, Tryd.ntmps24
  go_wp2_with fail
  refine (C.out _).mono ?_
  rintro e w2 ⟨rfl, rfl⟩
  go_wp2_with fail
  refine (other_129 _).mono ?_
  rintro e w2 ⟨rfl, hB⟩
  have HB := Lib.hid hB
  clear hB
  go_wp2_with fail
  go_ret
  exact ⟨rfl, HB.out⟩
theorem arith_132 (w : World) : Calls Tryd.prog 48 #[.int .u16 132] w fun e w' => e = .returned (.string ⟨#[110, 101, 103]⟩) ∧ Below w.heap.size w w' := by
  go_enter Tryd.func48, Tryd.ntmps48
  go_wp2_with fail
  go_ret
  exact ⟨rfl, Below.refl _ _⟩
theorem form_132 (w : World) : Calls Tryd.prog 24 #[.int .u16 132] w fun e w' => e = .returned (.string ⟨#[110, 101, 103]⟩) ∧ Below w.heap.size w w' := by
  have C : Hid (∀ w, Calls Tryd.prog 47 #[.int .u16 132] w fun e w' => e = .returned (.int .i64 4) ∧ w = w') := Lib.hid fun w => class_any 132 4 w (by decide) (by kernel_rfl)
  go_enter Tryd.func24, Tryd.ntmps24
  go_wp2_with fail
  refine (C.out _).mono ?_
  rintro e w2 ⟨rfl, rfl⟩
  go_wp2_with fail
  refine (arith_132 _).mono ?_
  rintro e w2 ⟨rfl, hB⟩
  have HB := Lib.hid hB
  clear hB
  go_wp2_with fail
  go_ret
  exact ⟨rfl, HB.out⟩
theorem other_135 (w : World) : Calls Tryd.prog 50 #[.int .u16 135] w fun e w' => e = .returned (.string ⟨#[116, 120, 97]⟩) ∧ Below w.heap.size w w' := by
  go_enter Tryd.func50, Tryd.ntmps50
  go_wp2_with fail
  go_ret
  exact ⟨rfl, Below.refl _ _⟩
theorem form_135 (w : World) : Calls Tryd.prog 24 #[.int .u16 135] w fun e w' => e = .returned (.string ⟨#[116, 120, 97]⟩) ∧ Below w.heap.size w w' := by
  have C : Hid (∀ w, Calls Tryd.prog 47 #[.int .u16 135] w fun e w' => e = .returned (.int .i64 7) ∧ w = w') := Lib.hid fun w => class_any 135 7 w (by decide) (by kernel_rfl)
  go_enter Tryd.func24, Tryd.ntmps24
  go_wp2_with fail
  refine (C.out _).mono ?_
  rintro e w2 ⟨rfl, rfl⟩
  go_wp2_with fail
  refine (other_135 _).mono ?_
  rintro e w2 ⟨rfl, hB⟩
  have HB := Lib.hid hB
  clear hB
  go_wp2_with fail
  go_ret
  exact ⟨rfl, HB.out⟩
theorem arith_148 (w : World) : Calls Tryd.prog 48 #[.int .u16 148] w fun e w' => e = .returned (.string ⟨#[109, 111, 100, 32, 35, 75]⟩) ∧ Below w.heap.size w w' := by
  go_enter Tryd.func48, Tryd.ntmps48
  go_wp2_with fail
  go_quiet ((go_at_call 60; exact Calls.quiet_of_same (side_any 148 false _ (by kernel_rfl))))
  go_wp2_with fail
  go_ret
  exact ⟨rfl, belowN ((Below.refl _ _).alloc (Nat.le_refl _) _) _⟩
theorem form_148 (w : World) : Calls Tryd.prog 24 #[.int .u16 148] w fun e w' => e = .returned (.string ⟨#[109, 111, 100, 32, 35, 75]⟩) ∧ Below w.heap.size w w' := by
  have C : Hid (∀ w, Calls Tryd.prog 47 #[.int .u16 148] w fun e w' => e = .returned (.int .i64 4) ∧ w = w') := Lib.hid fun w => class_any 148 4 w (by decide) (by kernel_rfl)
  go_enter Tryd.func24, Tryd.ntmps24
  go_wp2_with fail
  refine (C.out _).mono ?_
  rintro e w2 ⟨rfl, rfl⟩
  go_wp2_with fail
  refine (arith_148 _).mono ?_
  rintro e w2 ⟨rfl, hB⟩
  have HB := Lib.hid hB
  clear hB
  go_wp2_with fail
  go_ret
  exact ⟨rfl, HB.out⟩
theorem arith_156 (w : World) : Calls Tryd.prog 48 #[.int .u16 156] w fun e w' => e = .returned (.string ⟨#[109, 111, 100, 32, 120]⟩) ∧ Below w.heap.size w w' := by
  go_enter Tryd.func48, Tryd.ntmps48
  go_wp2_with fail
  go_quiet ((go_at_call 60; exact Calls.quiet_of_same (side_any 156 true _ (by kernel_rfl))))
  go_wp2_with fail
  go_ret
  exact ⟨rfl, belowN ((Below.refl _ _).alloc (Nat.le_refl _) _) _⟩
theorem form_156 (w : World) : Calls Tryd.prog 24 #[.int .u16 156] w fun e w' => e = .returned (.string ⟨#[109, 111, 100, 32, 120]⟩) ∧ Below w.heap.size w w' := by
  have C : Hid (∀ w, Calls Tryd.prog 47 #[.int .u16 156] w fun e w' => e = .returned (.int .i64 4) ∧ w = w') := Lib.hid fun w => class_any 156 4 w (by decide) (by kernel_rfl)
  go_enter Tryd.func24, Tryd.ntmps24
  go_wp2_with fail
  refine (C.out _).mono ?_
  rintro e w2 ⟨rfl, rfl⟩
  go_wp2_with fail
  refine (arith_156 _).mono ?_
  rintro e w2 ⟨rfl, hB⟩
  have HB := Lib.hid hB
  clear hB
  go_wp2_with fail
  go_ret
  exact ⟨rfl, HB.out⟩
theorem arith_164 (w : World) : Calls Tryd.prog 48 #[.int .u16 164] w fun e w' => e = .returned (.string ⟨#[120, 111, 114, 32, 35, 75]⟩) ∧ Below w.heap.size w w' := by
  go_enter Tryd.func48, Tryd.ntmps48
  go_wp2_with fail
  go_quiet ((go_at_call 60; exact Calls.quiet_of_same (side_any 164 false _ (by kernel_rfl))))
  go_wp2_with fail
  go_ret
  exact ⟨rfl, belowN ((Below.refl _ _).alloc (Nat.le_refl _) _) _⟩
theorem form_164 (w : World) : Calls Tryd.prog 24 #[.int .u16 164] w fun e w' => e = .returned (.string ⟨#[120, 111, 114, 32, 35, 75]⟩) ∧ Below w.heap.size w w' := by
  have C : Hid (∀ w, Calls Tryd.prog 47 #[.int .u16 164] w fun e w' => e = .returned (.int .i64 4) ∧ w = w') := Lib.hid fun w => class_any 164 4 w (by decide) (by kernel_rfl)
  go_enter Tryd.func24, Tryd.ntmps24
  go_wp2_with fail
  refine (C.out _).mono ?_
  rintro e w2 ⟨rfl, rfl⟩
  go_wp2_with fail
  refine (arith_164 _).mono ?_
  rintro e w2 ⟨rfl, hB⟩
  have HB := Lib.hid hB
  clear hB
  go_wp2_with fail
  go_ret
  exact ⟨rfl, HB.out⟩
theorem arith_172 (w : World) : Calls Tryd.prog 48 #[.int .u16 172] w fun e w' => e = .returned (.string ⟨#[120, 111, 114, 32, 120]⟩) ∧ Below w.heap.size w w' := by
  go_enter Tryd.func48, Tryd.ntmps48
  go_wp2_with fail
  go_quiet ((go_at_call 60; exact Calls.quiet_of_same (side_any 172 true _ (by kernel_rfl))))
  go_wp2_with fail
  go_ret
  exact ⟨rfl, belowN ((Below.refl _ _).alloc (Nat.le_refl _) _) _⟩
theorem form_172 (w : World) : Calls Tryd.prog 24 #[.int .u16 172] w fun e w' => e = .returned (.string ⟨#[120, 111, 114, 32, 120]⟩) ∧ Below w.heap.size w w' := by
  have C : Hid (∀ w, Calls Tryd.prog 47 #[.int .u16 172] w fun e w' => e = .returned (.int .i64 4) ∧ w = w') := Lib.hid fun w => class_any 172 4 w (by decide) (by kernel_rfl)
  go_enter Tryd.func24, Tryd.ntmps24
  go_wp2_with fail
  refine (C.out _).mono ?_
  rintro e w2 ⟨rfl, rfl⟩
  go_wp2_with fail
  refine (arith_172 _).mono ?_
  rintro e w2 ⟨rfl, hB⟩
  have HB := Lib.hid hB
  clear hB
  go_wp2_with fail
  go_ret
  exact ⟨rfl, HB.out⟩
theorem other_177 (w : World) : Calls Tryd.prog 50 #[.int .u16 177] w fun e w' => e = .returned (.string ⟨#[108, 100, 120, 98, 32, 52, 42, 40, 91, 75, 93, 38, 49, 53, 41]⟩) ∧ Below w.heap.size w w' := by
  go_enter Tryd.func50, Tryd.ntmps50
  go_wp2_with fail
  go_ret
  exact ⟨rfl, Below.refl _ _⟩
theorem form_177 (w : World) : Calls Tryd.prog 24 #[.int .u16 177] w fun e w' => e = .returned (.string ⟨#[108, 100, 120, 98, 32, 52, 42, 40, 91, 75, 93, 38, 49, 53, 41]⟩) ∧ Below w.heap.size w w' := by
  have C : Hid (∀ w, Calls Tryd.prog 47 #[.int .u16 177] w fun e w' => e = .returned (.int .i64 1) ∧ w = w') := Lib.hid fun w => class_any 177 1 w (by decide) (by kernel_rfl)
  go_enter Tryd.func24, Tryd.ntmps24
  go_wp2_with fail
  refine (C.out _).mono ?_
  rintro e w2 ⟨rfl, rfl⟩
  go_wp2_with fail
  refine (other_177 _).mono ?_
  rintro e w2 ⟨rfl, hB⟩
  have HB := Lib.hid hB
  clear hB
  go_wp2_with fail
  go_ret
  exact ⟨rfl, HB.out⟩
theorem form_any (c : Nat) (w : World) (hk : knownB c = true) : Calls Tryd.prog 24 #[.int .u16 c] w fun e w' => e = .returned (.string (bs (formL c))) ∧ Below w.heap.size w w' := by
  rw [all_known] at hk
  have hm : c ∈ allL := by simpa using hk
  simp only [allL, List.mem_cons, List.not_mem_nil, or_false] at hm
  rcases hm with rfl | rfl | rfl | rfl | rfl | rfl | rfl | rfl | rfl | rfl | rfl | rfl | rfl | rfl | rfl | rfl | rfl | rfl | rfl | rfl | rfl | rfl | rfl | rfl | rfl | rfl | rfl | rfl | rfl | rfl | rfl | rfl | rfl | rfl | rfl | rfl | rfl | rfl | rfl | rfl | rfl | rfl | rfl | rfl | rfl | rfl | rfl | rfl | rfl
  · exact form_0 w
  · exact form_1 w
  · exact form_2 w
  · exact form_3 w
  · exact form_4 w
  · exact form_5 w
  · exact form_6 w
  · exact form_7 w
  · exact form_12 w
  · exact form_20 w
  · exact form_21 w
  · exact form_22 w
  · exact form_28 w
  · exact form_29 w
  · exact form_32 w
  · exact form_36 w
  · exact form_37 w
  · exact form_40 w
  · exact form_44 w
  · exact form_45 w
  · exact form_48 w
  · exact form_52 w
  · exact form_53 w
  · exact form_60 w
  · exact form_61 w
  · exact form_64 w
  · exact form_68 w
  · exact form_69 w
  · exact form_72 w
  · exact form_76 w
  · exact form_77 w
  · exact form_80 w
  · exact form_84 w
  · exact form_92 w
  · exact form_96 w
  · exact form_97 w
  · exact form_100 w
  · exact form_108 w
  · exact form_116 w
  · exact form_124 w
  · exact form_128 w
  · exact form_129 w
  · exact form_132 w
  · exact form_135 w
  · exact form_148 w
  · exact form_156 w
  · exact form_164 w
  · exact form_172 w
  · exact form_177 w
end Go.Proofs.YtckbcmoanadckaaDoor
