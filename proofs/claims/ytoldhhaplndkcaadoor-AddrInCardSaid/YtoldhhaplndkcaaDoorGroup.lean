/- word.Get of two bytes; addr.group. -/
import Derived.Test.YtoldhhaplndkcaaDoorUnhex
import Derived.Laws.BitsLemmas
namespace Go.Proofs.YtoldhhaplndkcaaDoor
open Go.RowKit Go.Shelf Go.Deep
set_option linter.unusedVariables false
set_option linter.unusedSimpArgs false

theorem or256 {x y : Nat} (hx : x < 256) (hy : y < 256) : Go.bits .or .u32 ((x : Int) * 256) (y : Int) = ((256 * x + y : Nat) : Int) := by
  rw [bits_join .u32 32 (by decide) (fun n h0 h1 => by rw [IntKind.wrap_u32]; omega) 8 ((x : Int) * 256) (y : Int) (by omega) (by omega) (by omega) (by omega) (by omega) (by omega)]
  omega
theorem or0 {x : Nat} (hx : x < 256) : Go.bits .or .u32 0 (x : Int) = (x : Int) := by
  rw [bits_join .u32 32 (by decide) (fun n h0 h1 => by rw [IntKind.wrap_u32]; omega) 8 0 (x : Int) (by omega) (by omega) (by omega) (by omega) (by omega) (by omega)]
  omega
theorem fits_2 (w : World) : Calls Tryd.prog 97 #[.int .i64 2, .int .i64 0, .int .i64 2] w fun e w' => e = .returned (.bool true) ∧ w = w' := by
  go_enter Tryd.func97, Tryd.ntmps97
  go_wp2_with fail
  go_ret
  exact ⟨rfl, rfl⟩
set_option maxRecDepth 100000 in
set_option maxHeartbeats 3200000 in
theorem get2_any (g x y : Nat) (w : World) (hx : x < 256) (hy : y < 256) (h0 : w.cell? ⟨g, 0, none⟩ = some (.int .u8 (x : Int))) (h1 : w.cell? ⟨g, 1, none⟩ = some (.int .u8 (y : Int))) : Calls Tryd.prog 78 #[.slice (some ⟨g, 0, none⟩) 2 2, .int .i64 0, .int .i64 2] w fun e w' => e = .returned (.tuple #[.int .u32 ((256 * x + y : Nat) : Int), .bool true]) ∧ w = w' := by
  have b1 := or256 hx hy
  have b0 := or0 hx
  obtain ⟨v, hv⟩ : ∃ v, 256 * x + y = v := ⟨_, rfl⟩
  rw [hv] at b1 ⊢
  have v9 : v ≤ 65535 := by omega
  have x0 : (0 : Int) ≤ (x : Int) := by omega
  have y0 : (0 : Int) ≤ (y : Int) := by omega
  have x9 : (x : Int) ≤ 255 := by omega
  have y9 : (y : Int) ≤ 255 := by omega
  have cf := fits_2 w
  have Cf := Lib.hid cf
  clear hv cf
  go_enter Tryd.func78, Tryd.ntmps78
  go_wp2_with fail
  (with_reducible refine Cf.out.mono ?_)
  rintro e w2 ⟨rfl, rfl⟩
  go_wp2_with fail
  refine wp_loop_rounds 3 ?_
  rw [rounds_succ]
  go_wp2_with fail
  rw [rounds_succ]
  go_wp2_with fail
  rw [rounds_succ]
  go_wp2_with fail
  go_ret2
  exact ⟨rfl, rfl⟩
theorem nought_text (s : ByteArray) (h1 : 1 ≤ s.size) (h4 : s.size ≤ 4) : ∃ T : ByteArray, (∀ W, (Op.stringOp .add ((⟨#[48, 48, 48, 48]⟩ : ByteArray).extract s.size 4) s).run Tryd.prog W = .ok (.string T) W) ∧ T.size = 4 ∧ T.data.toList = List.replicate (4 - s.size) 48 ++ s.data.toList := by
  refine ⟨_, fun W => add_strs ?_ rfl W, ?_, ?_⟩
  · rw [ByteArray.size_extract]; show _ ≤ _; omega
  · rw [ByteArray.size_append, ByteArray.size_extract]
    show min 4 4 - s.size + s.size = 4
    omega
  · rw [append_list, extract_list]
    congr 1
    have : s.size = 1 ∨ s.size = 2 ∨ s.size = 3 ∨ s.size = 4 := by omega
    rcases this with e | e | e | e <;> rw [e] <;> rfl
theorem four_bytes (T : ByteArray) (h : T.size = 4) : T.data.toList = [T[0], T[1], T[2], T[3]] := by
  have e0 := drop_byte (s := T) (i := 0) (by omega)
  have e1 := drop_byte (s := T) (i := 1) (by omega)
  have e2 := drop_byte (s := T) (i := 2) (by omega)
  have e3 := drop_byte (s := T) (i := 3) (by omega)
  have e4 : T.data.toList.drop 4 = [] := List.drop_of_length_le (by rw [size_list]; omega)
  rw [List.drop_zero] at e0
  rw [e0, e1, e2, e3, e4]
set_option maxRecDepth 100000 in
set_option maxHeartbeats 3200000 in
theorem group_any (s : ByteArray) (w : World) (hs : s.size ≤ 1048576) : Calls Tryd.prog 56 #[.string s] w fun e w' => e = .returned (.tuple #[.int .u16 (((grpL s.data.toList).getD 0 : Nat) : Int), .bool (grpL s.data.toList).isSome]) ∧ Below w.heap.size w w' := by
  obtain ⟨R, hR⟩ : ∃ R, grpL s.data.toList = R := ⟨_, rfl⟩
  rw [hR]
  have hlt : ∀ u, R = some u → u < 65536 := fun u e => grp_lt (hR.trans e)
  unfold grpL at hR
  rw [size_list] at hR
  have s0 : (0 : Int) ≤ (s.size : Int) := by omega
  by_cases h1 : s.size < 1
  · have d1 : decide ((s.size : Int) < 1) = true := decide_eq_true (by omega)
    rw [if_pos (.inl h1)] at hR
    have HF := Lib.hid hR.symm
    clear hR h1 hlt
    go_enter Tryd.func56, Tryd.ntmps56
    go_wp2_with fail
    go_ret2
    rw [HF.out]
    exact ⟨rfl, Below.refl _ _⟩
  have d1 : decide ((s.size : Int) < 1) = false := decide_eq_false (by omega)
  by_cases h4 : 4 < s.size
  · have d2 : decide ((s.size : Int) > 4) = true := decide_eq_true (by omega)
    rw [if_pos (.inr h4)] at hR
    have HF := Lib.hid hR.symm
    clear hR h1 h4 hlt
    go_enter Tryd.func56, Tryd.ntmps56
    go_wp2_with fail
    go_ret2
    rw [HF.out]
    exact ⟨rfl, Below.refl _ _⟩
  have d2 : decide ((s.size : Int) > 4) = false := decide_eq_false (by omega)
  rw [if_neg (by omega)] at hR
  have s4 : (s.size : Int) ≤ 4 := by omega
  obtain ⟨T, hT, hT4, hTl⟩ := nought_text s (by omega) (by omega)
  have hx := hxF_noughts s.data.toList (4 - s.size)
  rw [← hTl, four_bytes T hT4] at hx
  rw [← hx] at hR
  have HLt := Lib.hid hlt
  have fail : (∀ W, Calls Tryd.prog 77 #[.string T] W fun e w' => e = .returned (.tuple #[.slice none 0 0, .bool false]) ∧ Below W.heap.size W w') → R = none → Calls Tryd.prog 56 #[.string s] w fun e w' => e = .returned (.tuple #[.int .u16 ((R.getD 0 : Nat) : Int), .bool R.isSome]) ∧ Below w.heap.size w w' := by
    intro c e
    have C := Lib.hid c
    have HE := Lib.hid e
    clear hR hx hTl hT4 c e h1 h4 hlt
    go_enter Tryd.func56, Tryd.ntmps56
    go_wp2_with fail
    refine (C.out _).mono ?_
    rintro e w2 ⟨rfl, hB⟩
    have HB := Lib.hid hB
    clear hB
    go_wp2_with fail
    go_ret2
    rw [HE.out]
    exact ⟨rfl, HB.out⟩
  cases h0 : hxB T[0] with
  | none => exact fail (fun W => unhex_bad0 T W hT4 h0) (by rw [← hR, hxF_none _ _ h0])
  | some d0 =>
    cases hh1 : hxB T[1] with
    | none => exact fail (fun W => unhex_bad1 T W hT4 d0 h0 hh1) (by rw [← hR, hxF_some _ _ h0, hxF_none _ _ hh1])
    | some d1' =>
      cases h2 : hxB T[2] with
      | none => exact fail (fun W => unhex_bad2 T W hT4 d0 h0 d1' hh1 h2) (by rw [← hR, hxF_some _ _ h0, hxF_some _ _ hh1, hxF_none _ _ h2])
      | some d2' =>
        cases h3 : hxB T[3] with
        | none => exact fail (fun W => unhex_bad3 T W hT4 d0 h0 d1' hh1 d2' h2 h3) (by rw [← hR, hxF_some _ _ h0, hxF_some _ _ hh1, hxF_some _ _ h2, hxF_none _ _ h3])
        | some d3 =>
          have hv : R = some (256 * (16 * d0 + d1') + (16 * d2' + d3)) := by
            rw [← hR, hxF_some _ _ h0, hxF_some _ _ hh1, hxF_some _ _ h2, hxF_some _ _ h3]
            show some _ = some _
            congr 1
            omega
          have l0 := hxB_lt h0
          have l1 := hxB_lt hh1
          have l2 := hxB_lt h2
          have l3 := hxB_lt h3
          have C := Lib.hid (fun W => unhex_ok T W hT4 d0 d1' d2' d3 h0 hh1 h2 h3)
          obtain ⟨x, hx'⟩ : ∃ x, 16 * d0 + d1' = x := ⟨_, rfl⟩
          obtain ⟨y, hy'⟩ : ∃ y, 16 * d2' + d3 = y := ⟨_, rfl⟩
          obtain ⟨v, hv'⟩ : ∃ v, 256 * x + y = v := ⟨_, rfl⟩
          have HX := Lib.hid hx'
          have HY := Lib.hid hy'
          have HV := Lib.hid hv'
          have x9 : x < 256 := by omega
          have y9 : y < 256 := by omega
          rw [hx', hy', hv'] at hv
          have HR := Lib.hid hv
          have w16 : IntKind.u16.wrap (v : Int) = v := IntWalk.u16_in _ (by omega)
          clear hR hx hTl hT4 h1 h4 hlt fail h0 hh1 h2 h3 hx' hy' hv' hv l0 l1 l2 l3
          go_enter Tryd.func56, Tryd.ntmps56
          go_wp2_with fail
          refine (C.out _).mono ?_
          rintro e w2 ⟨g, rfl, q0, q1, hB⟩
          rw [HX.out] at q0
          rw [HY.out] at q1
          have HB := Lib.hid hB
          have cg := get2_any g x y w2 x9 y9 q0 q1
          rw [HV.out] at cg
          have Cg := Lib.hid cg
          clear hB cg q0 q1
          go_wp2_with fail
          (with_reducible refine Cg.out.mono ?_)
          rintro e w3 ⟨rfl, rfl⟩
          go_wp2_with fail
          go_ret2
          rw [HR.out]
          exact ⟨rfl, HB.out⟩
end Go.Proofs.YtoldhhaplndkcaaDoor
