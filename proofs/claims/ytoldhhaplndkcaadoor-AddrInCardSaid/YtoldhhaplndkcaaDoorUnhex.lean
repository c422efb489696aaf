/- word.Unhex of four digits. -/
import Derived.Test.YtoldhhaplndkcaaDoorHexW
namespace Go.Proofs.YtoldhhaplndkcaaDoor
open Go.RowKit Go.Shelf Go.Deep
set_option linter.unusedVariables false
set_option linter.unusedSimpArgs false

theorem or16_all : ((List.finRange 16).all fun a => (List.finRange 16).all fun b => Go.bits .or .i64 ((a.val : Int) * 16) (b.val : Int) == ((16 * a.val + b.val : Nat) : Int)) = true := by kernel_rfl
theorem or16 {a b : Nat} (ha : a < 16) (hb : b < 16) : Go.bits .or .i64 ((a : Int) * 16) (b : Int) = ((16 * a + b : Nat) : Int) := by
  have h := List.all_eq_true.1 (List.all_eq_true.1 or16_all ⟨a, ha⟩ (List.mem_finRange _)) ⟨b, hb⟩ (List.mem_finRange _)
  exact beq_iff_eq.1 h
set_option maxRecDepth 100000 in
set_option maxHeartbeats 3200000 in
theorem unhex_ok (T : ByteArray) (w : World) (h4 : T.size = 4) (d0 d1 d2 d3 : Nat) (h0 : hxB T[0] = some d0) (h1 : hxB T[1] = some d1) (h2 : hxB T[2] = some d2) (h3 : hxB T[3] = some d3) : Calls Tryd.prog 77 #[.string T] w fun e w' => ∃ g, e = .returned (.tuple #[.slice (some ⟨g, 0, none⟩) 2 2, .bool true]) ∧ w'.cell? ⟨g, 0, none⟩ = some (.int .u8 ((16 * d0 + d1 : Nat) : Int)) ∧ w'.cell? ⟨g, 1, none⟩ = some (.int .u8 ((16 * d2 + d3 : Nat) : Int)) ∧ Below w.heap.size w w' := by
  have e0 := dgI_some h0
  have e1 := dgI_some h1
  have e2 := dgI_some h2
  have e3 := dgI_some h3
  have l0 := hxB_lt h0
  have l1 := hxB_lt h1
  have l2 := hxB_lt h2
  have l3 := hxB_lt h3
  have b0 := or16 l0 l1
  have b1 := or16 l2 l3
  obtain ⟨x, hx⟩ : ∃ x, 16 * d0 + d1 = x := ⟨_, rfl⟩
  obtain ⟨y, hy⟩ : ∃ y, 16 * d2 + d3 = y := ⟨_, rfl⟩
  rw [hx] at b0 ⊢
  rw [hy] at b1 ⊢
  have x9 : x ≤ 255 := by omega
  have y9 : y ≤ 255 := by omega
  clear h0 h1 h2 h3 hx hy
  have hmk : ∀ W, (Instr.makeSlice 34 (.int .i64 0) (.int .i64 2)).run Tryd.prog W = .ok (.slice (some ⟨W.heap.size, 0, none⟩) 0 2) (W.alloc (.cells #[.int .u8 0, .int .u8 0] 5)) := fun _ => by kernel_rfl
  have n0 : ¬ (d0 : Int) < 0 := by omega
  have n1 : ¬ (d1 : Int) < 0 := by omega
  have n2 : ¬ (d2 : Int) < 0 := by omega
  have n3 : ¬ (d3 : Int) < 0 := by omega
  have t0 : (0 : Int) ≤ (d0 : Int) := by omega
  have t1 : (0 : Int) ≤ (d1 : Int) := by omega
  have t2 : (0 : Int) ≤ (d2 : Int) := by omega
  have t3 : (0 : Int) ≤ (d3 : Int) := by omega
  have u0 : (d0 : Int) ≤ 15 := by omega
  have u1 : (d1 : Int) ≤ 15 := by omega
  have u2 : (d2 : Int) ≤ 15 := by omega
  have u3 : (d3 : Int) ≤ 15 := by omega
  have m0 : (x : Int) % 256 = (x : Int) := by omega
  have m1 : (y : Int) % 256 = (y : Int) := by omega
  go_enter Tryd.func77, Tryd.ntmps77
  go_wp2_with fail
  refine wp_loop_rounds 3 ?_
  rw [rounds_succ]
  go_wp2_with fail
  go_quiet ((go_at_call 96; exact Calls.quiet_of_same (digit_any _ _)))
  go_wp2_with fail
  rw [rounds_succ]
  go_wp2_with fail
  go_quiet ((go_at_call 96; exact Calls.quiet_of_same (digit_any _ _)))
  go_wp2_with fail
  rw [rounds_succ]
  go_wp2_with fail
  go_ret2
  refine ⟨w.heap.size, rfl, by go_simp, by go_simp, ?_⟩
  exact (((belowN (((belowN ((Below.refl _ w).alloc (Nat.le_refl _) _) _).setCell (p := ⟨w.heap.size, 0, none⟩) (Nat.le_refl _) _).alloc (by simp <;> omega) _) _).setCell (p := ⟨w.heap.size, 1, none⟩) (Nat.le_refl _) _).alloc (by simp <;> omega) _)
set_option maxRecDepth 100000 in
set_option maxHeartbeats 3200000 in
theorem unhex_bad0 (T : ByteArray) (w : World) (h4 : T.size = 4) (h0 : hxB T[0] = none) : Calls Tryd.prog 77 #[.string T] w fun e w' => e = .returned (.tuple #[.slice none 0 0, .bool false]) ∧ Below w.heap.size w w' := by
  have e0 := dgI_none h0
  clear h0
  have hmk : ∀ W, (Instr.makeSlice 34 (.int .i64 0) (.int .i64 2)).run Tryd.prog W = .ok (.slice (some ⟨W.heap.size, 0, none⟩) 0 2) (W.alloc (.cells #[.int .u8 0, .int .u8 0] 5)) := fun _ => by kernel_rfl
  go_enter Tryd.func77, Tryd.ntmps77
  go_wp2_with fail
  refine wp_loop_rounds 3 ?_
  rw [rounds_succ]
  go_wp2_with fail
  go_quiet ((go_at_call 96; exact Calls.quiet_of_same (digit_any _ _)))
  go_wp2_with fail
  go_ret2
  refine ⟨rfl, ?_⟩
  exact (belowN ((Below.refl _ w).alloc (Nat.le_refl _) _) _)
set_option maxRecDepth 100000 in
set_option maxHeartbeats 3200000 in
theorem unhex_bad1 (T : ByteArray) (w : World) (h4 : T.size = 4) (d0 : Nat) (h0 : hxB T[0] = some d0) (h1 : hxB T[1] = none) : Calls Tryd.prog 77 #[.string T] w fun e w' => e = .returned (.tuple #[.slice none 0 0, .bool false]) ∧ Below w.heap.size w w' := by
  have e0 := dgI_some h0
  have l0 := hxB_lt h0
  have n0 : ¬ (d0 : Int) < 0 := by omega
  have t0 : (0 : Int) ≤ (d0 : Int) := by omega
  have u0 : (d0 : Int) ≤ 15 := by omega
  have e1 := dgI_none h1
  clear h0 h1
  have hmk : ∀ W, (Instr.makeSlice 34 (.int .i64 0) (.int .i64 2)).run Tryd.prog W = .ok (.slice (some ⟨W.heap.size, 0, none⟩) 0 2) (W.alloc (.cells #[.int .u8 0, .int .u8 0] 5)) := fun _ => by kernel_rfl
  go_enter Tryd.func77, Tryd.ntmps77
  go_wp2_with fail
  refine wp_loop_rounds 3 ?_
  rw [rounds_succ]
  go_wp2_with fail
  go_quiet ((go_at_call 96; exact Calls.quiet_of_same (digit_any _ _)))
  go_wp2_with fail
  go_ret2
  refine ⟨rfl, ?_⟩
  exact (belowN ((Below.refl _ w).alloc (Nat.le_refl _) _) _)
set_option maxRecDepth 100000 in
set_option maxHeartbeats 3200000 in
theorem unhex_bad2 (T : ByteArray) (w : World) (h4 : T.size = 4) (d0 : Nat) (h0 : hxB T[0] = some d0) (d1 : Nat) (h1 : hxB T[1] = some d1) (h2 : hxB T[2] = none) : Calls Tryd.prog 77 #[.string T] w fun e w' => e = .returned (.tuple #[.slice none 0 0, .bool false]) ∧ Below w.heap.size w w' := by
  have e0 := dgI_some h0
  have l0 := hxB_lt h0
  have n0 : ¬ (d0 : Int) < 0 := by omega
  have t0 : (0 : Int) ≤ (d0 : Int) := by omega
  have u0 : (d0 : Int) ≤ 15 := by omega
  have e1 := dgI_some h1
  have l1 := hxB_lt h1
  have n1 : ¬ (d1 : Int) < 0 := by omega
  have t1 : (0 : Int) ≤ (d1 : Int) := by omega
  have u1 : (d1 : Int) ≤ 15 := by omega
  have b0 := or16 l0 l1
  obtain ⟨x, hx⟩ : ∃ x, 16 * d0 + d1 = x := ⟨_, rfl⟩
  rw [hx] at b0
  have x9 : x ≤ 255 := by omega
  have m0 : (x : Int) % 256 = (x : Int) := by omega
  clear hx
  have e2 := dgI_none h2
  clear h0 h1 h2
  have hmk : ∀ W, (Instr.makeSlice 34 (.int .i64 0) (.int .i64 2)).run Tryd.prog W = .ok (.slice (some ⟨W.heap.size, 0, none⟩) 0 2) (W.alloc (.cells #[.int .u8 0, .int .u8 0] 5)) := fun _ => by kernel_rfl
  go_enter Tryd.func77, Tryd.ntmps77
  go_wp2_with fail
  refine wp_loop_rounds 3 ?_
  rw [rounds_succ]
  go_wp2_with fail
  go_quiet ((go_at_call 96; exact Calls.quiet_of_same (digit_any _ _)))
  go_wp2_with fail
  rw [rounds_succ]
  go_wp2_with fail
  go_quiet ((go_at_call 96; exact Calls.quiet_of_same (digit_any _ _)))
  go_wp2_with fail
  go_ret2
  refine ⟨rfl, ?_⟩
  exact (belowN (((belowN ((Below.refl _ w).alloc (Nat.le_refl _) _) _).setCell (p := ⟨w.heap.size, 0, none⟩) (Nat.le_refl _) _).alloc (by simp <;> omega) _) _)
set_option maxRecDepth 100000 in
set_option maxHeartbeats 3200000 in
theorem unhex_bad3 (T : ByteArray) (w : World) (h4 : T.size = 4) (d0 : Nat) (h0 : hxB T[0] = some d0) (d1 : Nat) (h1 : hxB T[1] = some d1) (d2 : Nat) (h2 : hxB T[2] = some d2) (h3 : hxB T[3] = none) : Calls Tryd.prog 77 #[.string T] w fun e w' => e = .returned (.tuple #[.slice none 0 0, .bool false]) ∧ Below w.heap.size w w' := by
  have e0 := dgI_some h0
  have l0 := hxB_lt h0
  have n0 : ¬ (d0 : Int) < 0 := by omega
  have t0 : (0 : Int) ≤ (d0 : Int) := by omega
  have u0 : (d0 : Int) ≤ 15 := by omega
  have e1 := dgI_some h1
  have l1 := hxB_lt h1
  have n1 : ¬ (d1 : Int) < 0 := by omega
  have t1 : (0 : Int) ≤ (d1 : Int) := by omega
  have u1 : (d1 : Int) ≤ 15 := by omega
  have b0 := or16 l0 l1
  obtain ⟨x, hx⟩ : ∃ x, 16 * d0 + d1 = x := ⟨_, rfl⟩
  rw [hx] at b0
  have x9 : x ≤ 255 := by omega
  have m0 : (x : Int) % 256 = (x : Int) := by omega
  clear hx
  have e2 := dgI_some h2
  have l2 := hxB_lt h2
  have n2 : ¬ (d2 : Int) < 0 := by omega
  have t2 : (0 : Int) ≤ (d2 : Int) := by omega
  have u2 : (d2 : Int) ≤ 15 := by omega
  have e3 := dgI_none h3
  clear h0 h1 h2 h3
  have hmk : ∀ W, (Instr.makeSlice 34 (.int .i64 0) (.int .i64 2)).run Tryd.prog W = .ok (.slice (some ⟨W.heap.size, 0, none⟩) 0 2) (W.alloc (.cells #[.int .u8 0, .int .u8 0] 5)) := fun _ => by kernel_rfl
  go_enter Tryd.func77, Tryd.ntmps77
  go_wp2_with fail
  refine wp_loop_rounds 3 ?_
  rw [rounds_succ]
  go_wp2_with fail
  go_quiet ((go_at_call 96; exact Calls.quiet_of_same (digit_any _ _)))
  go_wp2_with fail
  rw [rounds_succ]
  go_wp2_with fail
  go_quiet ((go_at_call 96; exact Calls.quiet_of_same (digit_any _ _)))
  go_wp2_with fail
  go_ret2
  refine ⟨rfl, ?_⟩
  exact (belowN (((belowN ((Below.refl _ w).alloc (Nat.le_refl _) _) _).setCell (p := ⟨w.heap.size, 0, none⟩) (Nat.le_refl _) _).alloc (by simp <;> omega) _) _)
end Go.Proofs.YtoldhhaplndkcaaDoor
