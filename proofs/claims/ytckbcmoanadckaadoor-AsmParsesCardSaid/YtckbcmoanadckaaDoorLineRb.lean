/- The document's Line: jumps. -/
import Derived.Test.YtckbcmoanadckaaDoorLineRa
namespace Go.Proofs.YtckbcmoanadckaaDoor
open Go.RowKit Go.Shelf
set_option linter.unusedVariables false
set_option linter.unusedSimpArgs false

set_option maxRecDepth 100000 in
set_option maxHeartbeats 3200000 in
theorem rline_E1k (c jt jf k : Nat) (w : World) (hc : c ≤ 65535) (hjt : jt ≤ 255) (hjf : jf ≤ 255) (hk : k ≤ 4294967295) (hkb : knownB c = true) (huk : ukB c = true) (huj : rjL.contains c = true) (hbx : byxB c = false) :
    Calls Tryd.prog 10 #[.agg #[.int .u16 c, .int .u8 jt, .int .u8 jf, .int .u32 k]] w fun e w' => e = .returned (.string (bs (opN c ++ ([32, 35] ++ dcl k) ++ ([32] ++ dcl jt ++ [32] ++ dcl jf)))) ∧ Below w.heap.size w w' := by
  have i0 : (0 : Int) ≤ (c : Int) := by omega
  have i1 : (c : Int) ≤ 65535 := by omega
  have i2 : (0 : Int) ≤ (jt : Int) := by omega
  have i3 : (jt : Int) ≤ 255 := by omega
  have i4 : (0 : Int) ≤ (jf : Int) := by omega
  have i5 : (jf : Int) ≤ 255 := by omega
  have wc : IntKind.u32.wrap (c : Int) = c := IntWalk.u32_in _ (by omega)
  have wt : IntKind.u32.wrap (jt : Int) = jt := IntWalk.u32_in _ (by omega)
  have wf : IntKind.u32.wrap (jf : Int) = jf := IntWalk.u32_in _ (by omega)
  have HB0 := Lib.hid ((Below.refl w.heap.size w).alloc (Nat.le_refl _) (objN ⟨c, jt, jf, k⟩))
  have hu : ∀ W, Calls Tryd.prog 26 #[.int .u16 c] W fun e w' => (∃ z, e = .returned (.tuple #[.bool true, .bool true, .bool z])) ∧ W = w' := fun W => by
    have h := uses_any c W
    rw [show (knownB c && ukB c) = true from by rw [hkb, huk]; rfl, show (knownB c && rjL.contains c) = true from by rw [hkb, huj]; rfl] at h
    exact h
  have HU := Lib.hid hu
  have hkn : ∀ W, Calls Tryd.prog 27 #[.int .u16 c] W fun e w' => e = .returned (.bool true) ∧ W = w' := fun W => by
    have h := rknown_any c W
    rw [hkb] at h
    exact h
  have HKN := Lib.hid hkn
  clear hu hkn
  have qJ : ∀ W, Calls Tryd.prog 29 #[.int .u16 c] W fun e w' => e = .returned (.bool true) ∧ W = w' := fun W => by
    have h := rjump_any c W
    rw [huj] at h
    exact h
  have HJ := Lib.hid qJ
  clear qJ
  have qX : ∀ W, Calls Tryd.prog 33 #[.int .u16 c] W fun e w' => e = .returned (.bool false) ∧ W = w' := fun W => by
    have h := byx_any c W
    rw [hbx] at h
    exact h
  have HX := Lib.hid qX
  clear qX
  obtain ⟨O, hO⟩ : ∃ O, opN c = O := ⟨_, rfl⟩
  have lO : O.length ≤ 100 := by rw [← hO]; exact opN_len _
  have qO : ∀ W, Calls Tryd.prog 32 #[.int .u16 c] W fun e w' => e = .returned (.string (bs O)) ∧ W = w' := fun W => by
    have h := oper_any c W (by rw [huj]; rfl)
    rw [hO] at h
    exact h
  have HOP := Lib.hid qO
  clear qO
  obtain ⟨D4, hD4⟩ : ∃ D, dcl k = D := ⟨_, rfl⟩
  have lD4 : D4.length ≤ 20 := by rw [← hD4]; exact dcl_len _
  have n4 : ∀ W, Calls Tryd.prog 28 #[.int .u32 k] W fun e w' => e = .returned (.string (bs D4)) ∧ Below W.heap.size W w' := fun W => by
    have h := num_any k W (by omega)
    rw [hD4] at h
    exact h
  have N4 := Lib.hid n4
  clear n4
  obtain ⟨D2, hD2⟩ : ∃ D, dcl jt = D := ⟨_, rfl⟩
  have lD2 : D2.length ≤ 20 := by rw [← hD2]; exact dcl_len _
  have n2 : ∀ W, Calls Tryd.prog 28 #[.int .u32 jt] W fun e w' => e = .returned (.string (bs D2)) ∧ Below W.heap.size W w' := fun W => by
    have h := num_any jt W (by omega)
    rw [hD2] at h
    exact h
  have N2 := Lib.hid n2
  clear n2
  obtain ⟨D3, hD3⟩ : ∃ D, dcl jf = D := ⟨_, rfl⟩
  have lD3 : D3.length ≤ 20 := by rw [← hD3]; exact dcl_len _
  have n3 : ∀ W, Calls Tryd.prog 28 #[.int .u32 jf] W fun e w' => e = .returned (.string (bs D3)) ∧ Below W.heap.size W w' := fun W => by
    have h := num_any jf W (by omega)
    rw [hD3] at h
    exact h
  have N3 := Lib.hid n3
  clear n3
  obtain ⟨E1, hE1⟩ : ∃ E, O ++ [32, 120] = E := ⟨_, rfl⟩
  have lE1 : E1.length ≤ 102 := by rw [← hE1]; simp only [List.length_append, List.length_cons, List.length_nil]; omega
  have aE1 : ∀ W, (Op.stringOp .add (bs O) ⟨#[32, 120]⟩).run Tryd.prog W = .ok (.string (bs E1)) W := fun W => add_two O [32, 120] _ (by first | omega | (simp only [List.length_append, List.length_cons, List.length_nil]; omega)) hE1 W
  obtain ⟨E2, hE2⟩ : ∃ E, O ++ [32, 35] = E := ⟨_, rfl⟩
  have lE2 : E2.length ≤ 102 := by rw [← hE2]; simp only [List.length_append, List.length_cons, List.length_nil]; omega
  have aE2 : ∀ W, (Op.stringOp .add (bs O) ⟨#[32, 35]⟩).run Tryd.prog W = .ok (.string (bs E2)) W := fun W => add_two O [32, 35] _ (by first | omega | (simp only [List.length_append, List.length_cons, List.length_nil]; omega)) hE2 W
  obtain ⟨E3, hE3⟩ : ∃ E, E2 ++ D4 = E := ⟨_, rfl⟩
  have lE3 : E3.length ≤ 122 := by rw [← hE3]; simp only [List.length_append, List.length_cons, List.length_nil]; omega
  have aE3 : ∀ W, (Op.stringOp .add (bs E2) (bs D4)).run Tryd.prog W = .ok (.string (bs E3)) W := fun W => add_two E2 D4 _ (by first | omega | (simp only [List.length_append, List.length_cons, List.length_nil]; omega)) hE3 W
  obtain ⟨F1, hF1⟩ : ∃ E, E3 ++ [32] = E := ⟨_, rfl⟩
  have lF1 : F1.length ≤ 123 := by rw [← hF1]; simp only [List.length_append, List.length_cons, List.length_nil]; omega
  have aF1 : ∀ W, (Op.stringOp .add (bs E3) ⟨#[32]⟩).run Tryd.prog W = .ok (.string (bs F1)) W := fun W => add_two E3 [32] _ (by first | omega | (simp only [List.length_append, List.length_cons, List.length_nil]; omega)) hF1 W
  obtain ⟨F2, hF2⟩ : ∃ E, F1 ++ D2 = E := ⟨_, rfl⟩
  have lF2 : F2.length ≤ 143 := by rw [← hF2]; simp only [List.length_append, List.length_cons, List.length_nil]; omega
  have aF2 : ∀ W, (Op.stringOp .add (bs F1) (bs D2)).run Tryd.prog W = .ok (.string (bs F2)) W := fun W => add_two F1 D2 _ (by first | omega | (simp only [List.length_append, List.length_cons, List.length_nil]; omega)) hF2 W
  obtain ⟨F3, hF3⟩ : ∃ E, F2 ++ [32] = E := ⟨_, rfl⟩
  have lF3 : F3.length ≤ 144 := by rw [← hF3]; simp only [List.length_append, List.length_cons, List.length_nil]; omega
  have aF3 : ∀ W, (Op.stringOp .add (bs F2) ⟨#[32]⟩).run Tryd.prog W = .ok (.string (bs F3)) W := fun W => add_two F2 [32] _ (by first | omega | (simp only [List.length_append, List.length_cons, List.length_nil]; omega)) hF3 W
  obtain ⟨F4, hF4⟩ : ∃ E, F3 ++ D3 = E := ⟨_, rfl⟩
  have lF4 : F4.length ≤ 164 := by rw [← hF4]; simp only [List.length_append, List.length_cons, List.length_nil]; omega
  have aF4 : ∀ W, (Op.stringOp .add (bs F3) (bs D3)).run Tryd.prog W = .ok (.string (bs F4)) W := fun W => add_two F3 D3 _ (by first | omega | (simp only [List.length_append, List.length_cons, List.length_nil]; omega)) hF4 W
  have hres : opN c ++ ([32, 35] ++ dcl k) ++ ([32] ++ dcl jt ++ [32] ++ dcl jf) = F4 := by
    rw [hO, hD4, hD2, hD3]
    rw [← hF4, ← hF3, ← hF2, ← hF1, ← hE3, ← hE2]
    try simp only [List.append_assoc, List.cons_append, List.nil_append]
  rw [hres]
  clear hres hE1 lE1 hE2 lE2 hE3 lE3 hF1 lF1 hF2 lF2 hF3 lF3 hF4 lF4 hO lO hD4 lD4 hD2 lD2 hD3 lD3 hc hjt hjf hk hkb huk huj hbx
  go_enter Tryd.func10, Tryd.ntmps10
  go_wp2_with fail
  refine (HU.out _).mono ?_
  rintro e w2 ⟨⟨z, rfl⟩, rfl⟩
  go_wp2_with fail
  refine (HKN.out _).mono ?_
  rintro e w2 ⟨rfl, rfl⟩
  go_wp2_with fail
  refine (HJ.out _).mono ?_
  rintro e w2 ⟨rfl, rfl⟩
  go_wp2_with fail
  refine (HOP.out _).mono ?_
  rintro e w2 ⟨rfl, rfl⟩
  go_wp2_with fail
  refine (HX.out _).mono ?_
  rintro e w2 ⟨rfl, rfl⟩
  go_upto_region 8 with fail
  go_region_held3 (fun w' => w'.cell? ⟨w.heap.size, 0, none⟩ = some (.int .u16 c) ∧ w'.cell? ⟨w.heap.size, 1, none⟩ = some (.int .u8 jt) ∧ w'.cell? ⟨w.heap.size, 2, none⟩ = some (.int .u8 jf) ∧ w'.cell? ⟨w.heap.size, 3, none⟩ = some (.int .u32 k) ∧ Below w.heap.size w w')
    (first | exact ⟨by simp [go_sem], by simp [go_sem], by simp [go_sem], by simp [go_sem], HB0.out.drew⟩ | exact ⟨by simp [go_sem], by simp [go_sem], by simp [go_sem], by simp [go_sem], HB0.out⟩ | exact keepL (by assumption) (by assumption) | assumption)
    (first
      | (go_at_call 32; with_reducible refine (HOP.out _).mono ?_; rintro e20 w20 ⟨rfl, rfl⟩)
      | (go_at_call 28; with_reducible refine (N4.out _).mono ?_; rintro e14 w14 ⟨rfl, hB14⟩))
  rename_i hH
  obtain ⟨q0, q1, q2, q3, qB⟩ := hH
  have HQ := Lib.hid (And.intro q0 (And.intro q1 (And.intro q2 (And.intro q3 qB))))
  clear qB
  try clear hB14
  go_upto_region 10 with fail
  go_region_held3 (fun w' => w'.cell? ⟨w.heap.size, 0, none⟩ = some (.int .u16 c) ∧ w'.cell? ⟨w.heap.size, 1, none⟩ = some (.int .u8 jt) ∧ w'.cell? ⟨w.heap.size, 2, none⟩ = some (.int .u8 jf) ∧ w'.cell? ⟨w.heap.size, 3, none⟩ = some (.int .u32 k) ∧ Below w.heap.size w w')
    (first | exact HQ.out | exact keepL HQ.out ((Below.refl _ _).drew) | exact ⟨by simp [go_sem], by simp [go_sem], by simp [go_sem], by simp [go_sem], HB0.out.drew⟩ | exact ⟨by simp [go_sem], by simp [go_sem], by simp [go_sem], by simp [go_sem], HB0.out⟩ | exact keepL (by assumption) (by assumption) | assumption)
    (first
      | (go_at_call 28; with_reducible refine (N2.out _).mono ?_; rintro e12 w12 ⟨rfl, hB12⟩)
      | (go_at_call 28; with_reducible refine (N3.out _).mono ?_; rintro e13 w13 ⟨rfl, hB13⟩))
  rename_i hH
  have HH := Lib.hid (lastL hH)
  clear hH
  go_wp2_with fail
  go_ret
  exact ⟨rfl, HH.out⟩
set_option maxRecDepth 100000 in
set_option maxHeartbeats 3200000 in
theorem rline_E1x (c jt jf k : Nat) (w : World) (hc : c ≤ 65535) (hjt : jt ≤ 255) (hjf : jf ≤ 255) (hk : k ≤ 4294967295) (hkb : knownB c = true) (huk : ukB c = true) (huj : rjL.contains c = true) (hbx : byxB c = true) :
    Calls Tryd.prog 10 #[.agg #[.int .u16 c, .int .u8 jt, .int .u8 jf, .int .u32 k]] w fun e w' => e = .returned (.string (bs (opN c ++ [32, 120] ++ ([32] ++ dcl jt ++ [32] ++ dcl jf)))) ∧ Below w.heap.size w w' := by
  have i0 : (0 : Int) ≤ (c : Int) := by omega
  have i1 : (c : Int) ≤ 65535 := by omega
  have i2 : (0 : Int) ≤ (jt : Int) := by omega
  have i3 : (jt : Int) ≤ 255 := by omega
  have i4 : (0 : Int) ≤ (jf : Int) := by omega
  have i5 : (jf : Int) ≤ 255 := by omega
  have wc : IntKind.u32.wrap (c : Int) = c := IntWalk.u32_in _ (by omega)
  have wt : IntKind.u32.wrap (jt : Int) = jt := IntWalk.u32_in _ (by omega)
  have wf : IntKind.u32.wrap (jf : Int) = jf := IntWalk.u32_in _ (by omega)
  have HB0 := Lib.hid ((Below.refl w.heap.size w).alloc (Nat.le_refl _) (objN ⟨c, jt, jf, k⟩))
  have hu : ∀ W, Calls Tryd.prog 26 #[.int .u16 c] W fun e w' => (∃ z, e = .returned (.tuple #[.bool true, .bool true, .bool z])) ∧ W = w' := fun W => by
    have h := uses_any c W
    rw [show (knownB c && ukB c) = true from by rw [hkb, huk]; rfl, show (knownB c && rjL.contains c) = true from by rw [hkb, huj]; rfl] at h
    exact h
  have HU := Lib.hid hu
  have hkn : ∀ W, Calls Tryd.prog 27 #[.int .u16 c] W fun e w' => e = .returned (.bool true) ∧ W = w' := fun W => by
    have h := rknown_any c W
    rw [hkb] at h
    exact h
  have HKN := Lib.hid hkn
  clear hu hkn
  have qJ : ∀ W, Calls Tryd.prog 29 #[.int .u16 c] W fun e w' => e = .returned (.bool true) ∧ W = w' := fun W => by
    have h := rjump_any c W
    rw [huj] at h
    exact h
  have HJ := Lib.hid qJ
  clear qJ
  have qX : ∀ W, Calls Tryd.prog 33 #[.int .u16 c] W fun e w' => e = .returned (.bool true) ∧ W = w' := fun W => by
    have h := byx_any c W
    rw [hbx] at h
    exact h
  have HX := Lib.hid qX
  clear qX
  obtain ⟨O, hO⟩ : ∃ O, opN c = O := ⟨_, rfl⟩
  have lO : O.length ≤ 100 := by rw [← hO]; exact opN_len _
  have qO : ∀ W, Calls Tryd.prog 32 #[.int .u16 c] W fun e w' => e = .returned (.string (bs O)) ∧ W = w' := fun W => by
    have h := oper_any c W (by rw [huj]; rfl)
    rw [hO] at h
    exact h
  have HOP := Lib.hid qO
  clear qO
  obtain ⟨D2, hD2⟩ : ∃ D, dcl jt = D := ⟨_, rfl⟩
  have lD2 : D2.length ≤ 20 := by rw [← hD2]; exact dcl_len _
  have n2 : ∀ W, Calls Tryd.prog 28 #[.int .u32 jt] W fun e w' => e = .returned (.string (bs D2)) ∧ Below W.heap.size W w' := fun W => by
    have h := num_any jt W (by omega)
    rw [hD2] at h
    exact h
  have N2 := Lib.hid n2
  clear n2
  obtain ⟨D3, hD3⟩ : ∃ D, dcl jf = D := ⟨_, rfl⟩
  have lD3 : D3.length ≤ 20 := by rw [← hD3]; exact dcl_len _
  have n3 : ∀ W, Calls Tryd.prog 28 #[.int .u32 jf] W fun e w' => e = .returned (.string (bs D3)) ∧ Below W.heap.size W w' := fun W => by
    have h := num_any jf W (by omega)
    rw [hD3] at h
    exact h
  have N3 := Lib.hid n3
  clear n3
  obtain ⟨E1, hE1⟩ : ∃ E, O ++ [32, 120] = E := ⟨_, rfl⟩
  have lE1 : E1.length ≤ 102 := by rw [← hE1]; simp only [List.length_append, List.length_cons, List.length_nil]; omega
  have aE1 : ∀ W, (Op.stringOp .add (bs O) ⟨#[32, 120]⟩).run Tryd.prog W = .ok (.string (bs E1)) W := fun W => add_two O [32, 120] _ (by first | omega | (simp only [List.length_append, List.length_cons, List.length_nil]; omega)) hE1 W
  obtain ⟨F1, hF1⟩ : ∃ E, E1 ++ [32] = E := ⟨_, rfl⟩
  have lF1 : F1.length ≤ 123 := by rw [← hF1]; simp only [List.length_append, List.length_cons, List.length_nil]; omega
  have aF1 : ∀ W, (Op.stringOp .add (bs E1) ⟨#[32]⟩).run Tryd.prog W = .ok (.string (bs F1)) W := fun W => add_two E1 [32] _ (by first | omega | (simp only [List.length_append, List.length_cons, List.length_nil]; omega)) hF1 W
  obtain ⟨F2, hF2⟩ : ∃ E, F1 ++ D2 = E := ⟨_, rfl⟩
  have lF2 : F2.length ≤ 143 := by rw [← hF2]; simp only [List.length_append, List.length_cons, List.length_nil]; omega
  have aF2 : ∀ W, (Op.stringOp .add (bs F1) (bs D2)).run Tryd.prog W = .ok (.string (bs F2)) W := fun W => add_two F1 D2 _ (by first | omega | (simp only [List.length_append, List.length_cons, List.length_nil]; omega)) hF2 W
  obtain ⟨F3, hF3⟩ : ∃ E, F2 ++ [32] = E := ⟨_, rfl⟩
  have lF3 : F3.length ≤ 144 := by rw [← hF3]; simp only [List.length_append, List.length_cons, List.length_nil]; omega
  have aF3 : ∀ W, (Op.stringOp .add (bs F2) ⟨#[32]⟩).run Tryd.prog W = .ok (.string (bs F3)) W := fun W => add_two F2 [32] _ (by first | omega | (simp only [List.length_append, List.length_cons, List.length_nil]; omega)) hF3 W
  obtain ⟨F4, hF4⟩ : ∃ E, F3 ++ D3 = E := ⟨_, rfl⟩
  have lF4 : F4.length ≤ 164 := by rw [← hF4]; simp only [List.length_append, List.length_cons, List.length_nil]; omega
  have aF4 : ∀ W, (Op.stringOp .add (bs F3) (bs D3)).run Tryd.prog W = .ok (.string (bs F4)) W := fun W => add_two F3 D3 _ (by first | omega | (simp only [List.length_append, List.length_cons, List.length_nil]; omega)) hF4 W
  have hres : opN c ++ [32, 120] ++ ([32] ++ dcl jt ++ [32] ++ dcl jf) = F4 := by
    rw [hO, hD2, hD3]
    rw [← hF4, ← hF3, ← hF2, ← hF1, ← hE1]
    try simp only [List.append_assoc, List.cons_append, List.nil_append]
  rw [hres]
  clear hres hE1 lE1 hF1 lF1 hF2 lF2 hF3 lF3 hF4 lF4 hO lO hD2 lD2 hD3 lD3 hc hjt hjf hk hkb huk huj hbx
  go_enter Tryd.func10, Tryd.ntmps10
  go_wp2_with fail
  refine (HU.out _).mono ?_
  rintro e w2 ⟨⟨z, rfl⟩, rfl⟩
  go_wp2_with fail
  refine (HKN.out _).mono ?_
  rintro e w2 ⟨rfl, rfl⟩
  go_wp2_with fail
  refine (HJ.out _).mono ?_
  rintro e w2 ⟨rfl, rfl⟩
  go_wp2_with fail
  refine (HOP.out _).mono ?_
  rintro e w2 ⟨rfl, rfl⟩
  go_wp2_with fail
  refine (HX.out _).mono ?_
  rintro e w2 ⟨rfl, rfl⟩
  go_upto_region 10 with fail
  go_region_held3 (fun w' => w'.cell? ⟨w.heap.size, 0, none⟩ = some (.int .u16 c) ∧ w'.cell? ⟨w.heap.size, 1, none⟩ = some (.int .u8 jt) ∧ w'.cell? ⟨w.heap.size, 2, none⟩ = some (.int .u8 jf) ∧ w'.cell? ⟨w.heap.size, 3, none⟩ = some (.int .u32 k) ∧ Below w.heap.size w w')
    (first | exact ⟨by simp [go_sem], by simp [go_sem], by simp [go_sem], by simp [go_sem], HB0.out.drew⟩ | exact ⟨by simp [go_sem], by simp [go_sem], by simp [go_sem], by simp [go_sem], HB0.out⟩ | exact keepL (by assumption) (by assumption) | assumption)
    (first
      | (go_at_call 28; with_reducible refine (N2.out _).mono ?_; rintro e12 w12 ⟨rfl, hB12⟩)
      | (go_at_call 28; with_reducible refine (N3.out _).mono ?_; rintro e13 w13 ⟨rfl, hB13⟩))
  rename_i hH
  have HH := Lib.hid (lastL hH)
  clear hH
  go_wp2_with fail
  go_ret
  exact ⟨rfl, HH.out⟩
set_option maxRecDepth 100000 in
set_option maxHeartbeats 3200000 in
theorem rline_E3k (c jt jf k : Nat) (w : World) (hc : c ≤ 65535) (hjt : jt ≤ 255) (hjf : jf ≤ 255) (hk : k ≤ 4294967295) (hkb : knownB c = true) (huk : ukB c = false) (huj : rjL.contains c = true) (h1 : ((k : Int) == 0) = true) (h2 : ((k : Int) != 0) = false) (hbx : byxB c = false) :
    Calls Tryd.prog 10 #[.agg #[.int .u16 c, .int .u8 jt, .int .u8 jf, .int .u32 k]] w fun e w' => e = .returned (.string (bs (opN c ++ ([32, 35] ++ dcl k) ++ ([32] ++ dcl jt ++ [32] ++ dcl jf)))) ∧ Below w.heap.size w w' := by
  have i0 : (0 : Int) ≤ (c : Int) := by omega
  have i1 : (c : Int) ≤ 65535 := by omega
  have i2 : (0 : Int) ≤ (jt : Int) := by omega
  have i3 : (jt : Int) ≤ 255 := by omega
  have i4 : (0 : Int) ≤ (jf : Int) := by omega
  have i5 : (jf : Int) ≤ 255 := by omega
  have wc : IntKind.u32.wrap (c : Int) = c := IntWalk.u32_in _ (by omega)
  have wt : IntKind.u32.wrap (jt : Int) = jt := IntWalk.u32_in _ (by omega)
  have wf : IntKind.u32.wrap (jf : Int) = jf := IntWalk.u32_in _ (by omega)
  have HB0 := Lib.hid ((Below.refl w.heap.size w).alloc (Nat.le_refl _) (objN ⟨c, jt, jf, k⟩))
  have hu : ∀ W, Calls Tryd.prog 26 #[.int .u16 c] W fun e w' => (∃ z, e = .returned (.tuple #[.bool false, .bool true, .bool z])) ∧ W = w' := fun W => by
    have h := uses_any c W
    rw [show (knownB c && ukB c) = false from by rw [hkb, huk]; rfl, show (knownB c && rjL.contains c) = true from by rw [hkb, huj]; rfl] at h
    exact h
  have HU := Lib.hid hu
  have hkn : ∀ W, Calls Tryd.prog 27 #[.int .u16 c] W fun e w' => e = .returned (.bool true) ∧ W = w' := fun W => by
    have h := rknown_any c W
    rw [hkb] at h
    exact h
  have HKN := Lib.hid hkn
  clear hu hkn
  have qJ : ∀ W, Calls Tryd.prog 29 #[.int .u16 c] W fun e w' => e = .returned (.bool true) ∧ W = w' := fun W => by
    have h := rjump_any c W
    rw [huj] at h
    exact h
  have HJ := Lib.hid qJ
  clear qJ
  have qX : ∀ W, Calls Tryd.prog 33 #[.int .u16 c] W fun e w' => e = .returned (.bool false) ∧ W = w' := fun W => by
    have h := byx_any c W
    rw [hbx] at h
    exact h
  have HX := Lib.hid qX
  clear qX
  obtain ⟨O, hO⟩ : ∃ O, opN c = O := ⟨_, rfl⟩
  have lO : O.length ≤ 100 := by rw [← hO]; exact opN_len _
  have qO : ∀ W, Calls Tryd.prog 32 #[.int .u16 c] W fun e w' => e = .returned (.string (bs O)) ∧ W = w' := fun W => by
    have h := oper_any c W (by rw [huj]; rfl)
    rw [hO] at h
    exact h
  have HOP := Lib.hid qO
  clear qO
  obtain ⟨D4, hD4⟩ : ∃ D, dcl k = D := ⟨_, rfl⟩
  have lD4 : D4.length ≤ 20 := by rw [← hD4]; exact dcl_len _
  have n4 : ∀ W, Calls Tryd.prog 28 #[.int .u32 k] W fun e w' => e = .returned (.string (bs D4)) ∧ Below W.heap.size W w' := fun W => by
    have h := num_any k W (by omega)
    rw [hD4] at h
    exact h
  have N4 := Lib.hid n4
  clear n4
  obtain ⟨D2, hD2⟩ : ∃ D, dcl jt = D := ⟨_, rfl⟩
  have lD2 : D2.length ≤ 20 := by rw [← hD2]; exact dcl_len _
  have n2 : ∀ W, Calls Tryd.prog 28 #[.int .u32 jt] W fun e w' => e = .returned (.string (bs D2)) ∧ Below W.heap.size W w' := fun W => by
    have h := num_any jt W (by omega)
    rw [hD2] at h
    exact h
  have N2 := Lib.hid n2
  clear n2
  obtain ⟨D3, hD3⟩ : ∃ D, dcl jf = D := ⟨_, rfl⟩
  have lD3 : D3.length ≤ 20 := by rw [← hD3]; exact dcl_len _
  have n3 : ∀ W, Calls Tryd.prog 28 #[.int .u32 jf] W fun e w' => e = .returned (.string (bs D3)) ∧ Below W.heap.size W w' := fun W => by
    have h := num_any jf W (by omega)
    rw [hD3] at h
    exact h
  have N3 := Lib.hid n3
  clear n3
  obtain ⟨E1, hE1⟩ : ∃ E, O ++ [32, 120] = E := ⟨_, rfl⟩
  have lE1 : E1.length ≤ 102 := by rw [← hE1]; simp only [List.length_append, List.length_cons, List.length_nil]; omega
  have aE1 : ∀ W, (Op.stringOp .add (bs O) ⟨#[32, 120]⟩).run Tryd.prog W = .ok (.string (bs E1)) W := fun W => add_two O [32, 120] _ (by first | omega | (simp only [List.length_append, List.length_cons, List.length_nil]; omega)) hE1 W
  obtain ⟨E2, hE2⟩ : ∃ E, O ++ [32, 35] = E := ⟨_, rfl⟩
  have lE2 : E2.length ≤ 102 := by rw [← hE2]; simp only [List.length_append, List.length_cons, List.length_nil]; omega
  have aE2 : ∀ W, (Op.stringOp .add (bs O) ⟨#[32, 35]⟩).run Tryd.prog W = .ok (.string (bs E2)) W := fun W => add_two O [32, 35] _ (by first | omega | (simp only [List.length_append, List.length_cons, List.length_nil]; omega)) hE2 W
  obtain ⟨E3, hE3⟩ : ∃ E, E2 ++ D4 = E := ⟨_, rfl⟩
  have lE3 : E3.length ≤ 122 := by rw [← hE3]; simp only [List.length_append, List.length_cons, List.length_nil]; omega
  have aE3 : ∀ W, (Op.stringOp .add (bs E2) (bs D4)).run Tryd.prog W = .ok (.string (bs E3)) W := fun W => add_two E2 D4 _ (by first | omega | (simp only [List.length_append, List.length_cons, List.length_nil]; omega)) hE3 W
  obtain ⟨F1, hF1⟩ : ∃ E, E3 ++ [32] = E := ⟨_, rfl⟩
  have lF1 : F1.length ≤ 123 := by rw [← hF1]; simp only [List.length_append, List.length_cons, List.length_nil]; omega
  have aF1 : ∀ W, (Op.stringOp .add (bs E3) ⟨#[32]⟩).run Tryd.prog W = .ok (.string (bs F1)) W := fun W => add_two E3 [32] _ (by first | omega | (simp only [List.length_append, List.length_cons, List.length_nil]; omega)) hF1 W
  obtain ⟨F2, hF2⟩ : ∃ E, F1 ++ D2 = E := ⟨_, rfl⟩
  have lF2 : F2.length ≤ 143 := by rw [← hF2]; simp only [List.length_append, List.length_cons, List.length_nil]; omega
  have aF2 : ∀ W, (Op.stringOp .add (bs F1) (bs D2)).run Tryd.prog W = .ok (.string (bs F2)) W := fun W => add_two F1 D2 _ (by first | omega | (simp only [List.length_append, List.length_cons, List.length_nil]; omega)) hF2 W
  obtain ⟨F3, hF3⟩ : ∃ E, F2 ++ [32] = E := ⟨_, rfl⟩
  have lF3 : F3.length ≤ 144 := by rw [← hF3]; simp only [List.length_append, List.length_cons, List.length_nil]; omega
  have aF3 : ∀ W, (Op.stringOp .add (bs F2) ⟨#[32]⟩).run Tryd.prog W = .ok (.string (bs F3)) W := fun W => add_two F2 [32] _ (by first | omega | (simp only [List.length_append, List.length_cons, List.length_nil]; omega)) hF3 W
  obtain ⟨F4, hF4⟩ : ∃ E, F3 ++ D3 = E := ⟨_, rfl⟩
  have lF4 : F4.length ≤ 164 := by rw [← hF4]; simp only [List.length_append, List.length_cons, List.length_nil]; omega
  have aF4 : ∀ W, (Op.stringOp .add (bs F3) (bs D3)).run Tryd.prog W = .ok (.string (bs F4)) W := fun W => add_two F3 D3 _ (by first | omega | (simp only [List.length_append, List.length_cons, List.length_nil]; omega)) hF4 W
  have hres : opN c ++ ([32, 35] ++ dcl k) ++ ([32] ++ dcl jt ++ [32] ++ dcl jf) = F4 := by
    rw [hO, hD4, hD2, hD3]
    rw [← hF4, ← hF3, ← hF2, ← hF1, ← hE3, ← hE2]
    try simp only [List.append_assoc, List.cons_append, List.nil_append]
  rw [hres]
  clear hres hE1 lE1 hE2 lE2 hE3 lE3 hF1 lF1 hF2 lF2 hF3 lF3 hF4 lF4 hO lO hD4 lD4 hD2 lD2 hD3 lD3 hc hjt hjf hk hkb huk huj hbx
  go_enter Tryd.func10, Tryd.ntmps10
  go_wp2_with fail
  refine (HU.out _).mono ?_
  rintro e w2 ⟨⟨z, rfl⟩, rfl⟩
  go_wp2_with fail
  refine (HKN.out _).mono ?_
  rintro e w2 ⟨rfl, rfl⟩
  go_wp2_with fail
  refine (HJ.out _).mono ?_
  rintro e w2 ⟨rfl, rfl⟩
  go_wp2_with fail
  refine (HOP.out _).mono ?_
  rintro e w2 ⟨rfl, rfl⟩
  go_wp2_with fail
  refine (HX.out _).mono ?_
  rintro e w2 ⟨rfl, rfl⟩
  go_upto_region 8 with fail
  go_region_held3 (fun w' => w'.cell? ⟨w.heap.size, 0, none⟩ = some (.int .u16 c) ∧ w'.cell? ⟨w.heap.size, 1, none⟩ = some (.int .u8 jt) ∧ w'.cell? ⟨w.heap.size, 2, none⟩ = some (.int .u8 jf) ∧ w'.cell? ⟨w.heap.size, 3, none⟩ = some (.int .u32 k) ∧ Below w.heap.size w w')
    (first | exact ⟨by simp [go_sem], by simp [go_sem], by simp [go_sem], by simp [go_sem], HB0.out.drew⟩ | exact ⟨by simp [go_sem], by simp [go_sem], by simp [go_sem], by simp [go_sem], HB0.out⟩ | exact keepL (by assumption) (by assumption) | assumption)
    (first
      | (go_at_call 32; with_reducible refine (HOP.out _).mono ?_; rintro e20 w20 ⟨rfl, rfl⟩)
      | (go_at_call 28; with_reducible refine (N4.out _).mono ?_; rintro e14 w14 ⟨rfl, hB14⟩))
  rename_i hH
  obtain ⟨q0, q1, q2, q3, qB⟩ := hH
  have HQ := Lib.hid (And.intro q0 (And.intro q1 (And.intro q2 (And.intro q3 qB))))
  clear qB
  try clear hB14
  go_upto_region 10 with fail
  go_region_held3 (fun w' => w'.cell? ⟨w.heap.size, 0, none⟩ = some (.int .u16 c) ∧ w'.cell? ⟨w.heap.size, 1, none⟩ = some (.int .u8 jt) ∧ w'.cell? ⟨w.heap.size, 2, none⟩ = some (.int .u8 jf) ∧ w'.cell? ⟨w.heap.size, 3, none⟩ = some (.int .u32 k) ∧ Below w.heap.size w w')
    (first | exact HQ.out | exact keepL HQ.out ((Below.refl _ _).drew) | exact ⟨by simp [go_sem], by simp [go_sem], by simp [go_sem], by simp [go_sem], HB0.out.drew⟩ | exact ⟨by simp [go_sem], by simp [go_sem], by simp [go_sem], by simp [go_sem], HB0.out⟩ | exact keepL (by assumption) (by assumption) | assumption)
    (first
      | (go_at_call 28; with_reducible refine (N2.out _).mono ?_; rintro e12 w12 ⟨rfl, hB12⟩)
      | (go_at_call 28; with_reducible refine (N3.out _).mono ?_; rintro e13 w13 ⟨rfl, hB13⟩))
  rename_i hH
  have HH := Lib.hid (lastL hH)
  clear hH
  go_wp2_with fail
  go_ret
  exact ⟨rfl, HH.out⟩
set_option maxRecDepth 100000 in
set_option maxHeartbeats 3200000 in
theorem rline_E3x (c jt jf k : Nat) (w : World) (hc : c ≤ 65535) (hjt : jt ≤ 255) (hjf : jf ≤ 255) (hk : k ≤ 4294967295) (hkb : knownB c = true) (huk : ukB c = false) (huj : rjL.contains c = true) (h1 : ((k : Int) == 0) = true) (h2 : ((k : Int) != 0) = false) (hbx : byxB c = true) :
    Calls Tryd.prog 10 #[.agg #[.int .u16 c, .int .u8 jt, .int .u8 jf, .int .u32 k]] w fun e w' => e = .returned (.string (bs (opN c ++ [32, 120] ++ ([32] ++ dcl jt ++ [32] ++ dcl jf)))) ∧ Below w.heap.size w w' := by
  have i0 : (0 : Int) ≤ (c : Int) := by omega
  have i1 : (c : Int) ≤ 65535 := by omega
  have i2 : (0 : Int) ≤ (jt : Int) := by omega
  have i3 : (jt : Int) ≤ 255 := by omega
  have i4 : (0 : Int) ≤ (jf : Int) := by omega
  have i5 : (jf : Int) ≤ 255 := by omega
  have wc : IntKind.u32.wrap (c : Int) = c := IntWalk.u32_in _ (by omega)
  have wt : IntKind.u32.wrap (jt : Int) = jt := IntWalk.u32_in _ (by omega)
  have wf : IntKind.u32.wrap (jf : Int) = jf := IntWalk.u32_in _ (by omega)
  have HB0 := Lib.hid ((Below.refl w.heap.size w).alloc (Nat.le_refl _) (objN ⟨c, jt, jf, k⟩))
  have hu : ∀ W, Calls Tryd.prog 26 #[.int .u16 c] W fun e w' => (∃ z, e = .returned (.tuple #[.bool false, .bool true, .bool z])) ∧ W = w' := fun W => by
    have h := uses_any c W
    rw [show (knownB c && ukB c) = false from by rw [hkb, huk]; rfl, show (knownB c && rjL.contains c) = true from by rw [hkb, huj]; rfl] at h
    exact h
  have HU := Lib.hid hu
  have hkn : ∀ W, Calls Tryd.prog 27 #[.int .u16 c] W fun e w' => e = .returned (.bool true) ∧ W = w' := fun W => by
    have h := rknown_any c W
    rw [hkb] at h
    exact h
  have HKN := Lib.hid hkn
  clear hu hkn
  have qJ : ∀ W, Calls Tryd.prog 29 #[.int .u16 c] W fun e w' => e = .returned (.bool true) ∧ W = w' := fun W => by
    have h := rjump_any c W
    rw [huj] at h
    exact h
  have HJ := Lib.hid qJ
  clear qJ
  have qX : ∀ W, Calls Tryd.prog 33 #[.int .u16 c] W fun e w' => e = .returned (.bool true) ∧ W = w' := fun W => by
    have h := byx_any c W
    rw [hbx] at h
    exact h
  have HX := Lib.hid qX
  clear qX
  obtain ⟨O, hO⟩ : ∃ O, opN c = O := ⟨_, rfl⟩
  have lO : O.length ≤ 100 := by rw [← hO]; exact opN_len _
  have qO : ∀ W, Calls Tryd.prog 32 #[.int .u16 c] W fun e w' => e = .returned (.string (bs O)) ∧ W = w' := fun W => by
    have h := oper_any c W (by rw [huj]; rfl)
    rw [hO] at h
    exact h
  have HOP := Lib.hid qO
  clear qO
  obtain ⟨D2, hD2⟩ : ∃ D, dcl jt = D := ⟨_, rfl⟩
  have lD2 : D2.length ≤ 20 := by rw [← hD2]; exact dcl_len _
  have n2 : ∀ W, Calls Tryd.prog 28 #[.int .u32 jt] W fun e w' => e = .returned (.string (bs D2)) ∧ Below W.heap.size W w' := fun W => by
    have h := num_any jt W (by omega)
    rw [hD2] at h
    exact h
  have N2 := Lib.hid n2
  clear n2
  obtain ⟨D3, hD3⟩ : ∃ D, dcl jf = D := ⟨_, rfl⟩
  have lD3 : D3.length ≤ 20 := by rw [← hD3]; exact dcl_len _
  have n3 : ∀ W, Calls Tryd.prog 28 #[.int .u32 jf] W fun e w' => e = .returned (.string (bs D3)) ∧ Below W.heap.size W w' := fun W => by
    have h := num_any jf W (by omega)
    rw [hD3] at h
    exact h
  have N3 := Lib.hid n3
  clear n3
  obtain ⟨E1, hE1⟩ : ∃ E, O ++ [32, 120] = E := ⟨_, rfl⟩
  have lE1 : E1.length ≤ 102 := by rw [← hE1]; simp only [List.length_append, List.length_cons, List.length_nil]; omega
  have aE1 : ∀ W, (Op.stringOp .add (bs O) ⟨#[32, 120]⟩).run Tryd.prog W = .ok (.string (bs E1)) W := fun W => add_two O [32, 120] _ (by first | omega | (simp only [List.length_append, List.length_cons, List.length_nil]; omega)) hE1 W
  obtain ⟨F1, hF1⟩ : ∃ E, E1 ++ [32] = E := ⟨_, rfl⟩
  have lF1 : F1.length ≤ 123 := by rw [← hF1]; simp only [List.length_append, List.length_cons, List.length_nil]; omega
  have aF1 : ∀ W, (Op.stringOp .add (bs E1) ⟨#[32]⟩).run Tryd.prog W = .ok (.string (bs F1)) W := fun W => add_two E1 [32] _ (by first | omega | (simp only [List.length_append, List.length_cons, List.length_nil]; omega)) hF1 W
  obtain ⟨F2, hF2⟩ : ∃ E, F1 ++ D2 = E := ⟨_, rfl⟩
  have lF2 : F2.length ≤ 143 := by rw [← hF2]; simp only [List.length_append, List.length_cons, List.length_nil]; omega
  have aF2 : ∀ W, (Op.stringOp .add (bs F1) (bs D2)).run Tryd.prog W = .ok (.string (bs F2)) W := fun W => add_two F1 D2 _ (by first | omega | (simp only [List.length_append, List.length_cons, List.length_nil]; omega)) hF2 W
  obtain ⟨F3, hF3⟩ : ∃ E, F2 ++ [32] = E := ⟨_, rfl⟩
  have lF3 : F3.length ≤ 144 := by rw [← hF3]; simp only [List.length_append, List.length_cons, List.length_nil]; omega
  have aF3 : ∀ W, (Op.stringOp .add (bs F2) ⟨#[32]⟩).run Tryd.prog W = .ok (.string (bs F3)) W := fun W => add_two F2 [32] _ (by first | omega | (simp only [List.length_append, List.length_cons, List.length_nil]; omega)) hF3 W
  obtain ⟨F4, hF4⟩ : ∃ E, F3 ++ D3 = E := ⟨_, rfl⟩
  have lF4 : F4.length ≤ 164 := by rw [← hF4]; simp only [List.length_append, List.length_cons, List.length_nil]; omega
  have aF4 : ∀ W, (Op.stringOp .add (bs F3) (bs D3)).run Tryd.prog W = .ok (.string (bs F4)) W := fun W => add_two F3 D3 _ (by first | omega | (simp only [List.length_append, List.length_cons, List.length_nil]; omega)) hF4 W
  have hres : opN c ++ [32, 120] ++ ([32] ++ dcl jt ++ [32] ++ dcl jf) = F4 := by
    rw [hO, hD2, hD3]
    rw [← hF4, ← hF3, ← hF2, ← hF1, ← hE1]
    try simp only [List.append_assoc, List.cons_append, List.nil_append]
  rw [hres]
  clear hres hE1 lE1 hF1 lF1 hF2 lF2 hF3 lF3 hF4 lF4 hO lO hD2 lD2 hD3 lD3 hc hjt hjf hk hkb huk huj hbx
  go_enter Tryd.func10, Tryd.ntmps10
  go_wp2_with fail
  refine (HU.out _).mono ?_
  rintro e w2 ⟨⟨z, rfl⟩, rfl⟩
  go_wp2_with fail
  refine (HKN.out _).mono ?_
  rintro e w2 ⟨rfl, rfl⟩
  go_wp2_with fail
  refine (HJ.out _).mono ?_
  rintro e w2 ⟨rfl, rfl⟩
  go_wp2_with fail
  refine (HOP.out _).mono ?_
  rintro e w2 ⟨rfl, rfl⟩
  go_wp2_with fail
  refine (HX.out _).mono ?_
  rintro e w2 ⟨rfl, rfl⟩
  go_upto_region 10 with fail
  go_region_held3 (fun w' => w'.cell? ⟨w.heap.size, 0, none⟩ = some (.int .u16 c) ∧ w'.cell? ⟨w.heap.size, 1, none⟩ = some (.int .u8 jt) ∧ w'.cell? ⟨w.heap.size, 2, none⟩ = some (.int .u8 jf) ∧ w'.cell? ⟨w.heap.size, 3, none⟩ = some (.int .u32 k) ∧ Below w.heap.size w w')
    (first | exact ⟨by simp [go_sem], by simp [go_sem], by simp [go_sem], by simp [go_sem], HB0.out.drew⟩ | exact ⟨by simp [go_sem], by simp [go_sem], by simp [go_sem], by simp [go_sem], HB0.out⟩ | exact keepL (by assumption) (by assumption) | assumption)
    (first
      | (go_at_call 28; with_reducible refine (N2.out _).mono ?_; rintro e12 w12 ⟨rfl, hB12⟩)
      | (go_at_call 28; with_reducible refine (N3.out _).mono ?_; rintro e13 w13 ⟨rfl, hB13⟩))
  rename_i hH
  have HH := Lib.hid (lastL hH)
  clear hH
  go_wp2_with fail
  go_ret
  exact ⟨rfl, HH.out⟩
end Go.Proofs.YtckbcmoanadckaaDoor
