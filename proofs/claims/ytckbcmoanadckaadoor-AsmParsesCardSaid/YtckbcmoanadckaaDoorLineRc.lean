/- The document's Line: it is the compiler's. -/
import Derived.Test.YtckbcmoanadckaaDoorLineRb
namespace Go.Proofs.YtckbcmoanadckaaDoor
open Go.RowKit Go.Shelf
set_option linter.unusedVariables false
set_option linter.unusedSimpArgs false

set_option maxRecDepth 100000 in
set_option maxHeartbeats 3200000 in
theorem rline_E2p (c jt jf k : Nat) (w : World) (hc : c ≤ 65535) (hjt : jt ≤ 255) (hjf : jf ≤ 255) (hk : k ≤ 4294967295) (hkb : knownB c = true) (huk : ukB c = true) (huj : rjL.contains c = false) (h3 : ((jt : Int) == 0) = true) (h4 : ((jt : Int) != 0) = false) (h5 : ((jf : Int) == 0) = true) (h6 : ((jf : Int) != 0) = false) (hop : roL.contains c = false) :
    Calls Tryd.prog 10 #[.agg #[.int .u16 c, .int .u8 jt, .int .u8 jf, .int .u32 k]] w fun e w' => e = .returned (.string (bs (fillL (formL c) ⟨c, jt, jf, k⟩))) ∧ Below w.heap.size w w' := by
  have i0 : (0 : Int) ≤ (c : Int) := by omega
  have i1 : (c : Int) ≤ 65535 := by omega
  have i2 : (0 : Int) ≤ (jt : Int) := by omega
  have i3 : (jt : Int) ≤ 255 := by omega
  have i4 : (0 : Int) ≤ (jf : Int) := by omega
  have i5 : (jf : Int) ≤ 255 := by omega
  have wc : IntKind.u32.wrap (c : Int) = c := IntWalk.u32_in _ (by omega)
  have wt : IntKind.u32.wrap (jt : Int) = jt := IntWalk.u32_in _ (by omega)
  have wf : IntKind.u32.wrap (jf : Int) = jf := IntWalk.u32_in _ (by omega)
  have HB0 := Lib.hid ((Below.refl w.heap.size w).alloc (Nat.le_refl _) (objN ⟨c, jt, jf, k⟩))
  have hu : ∀ W, Calls Tryd.prog 26 #[.int .u16 c] W fun e w' => (∃ z, e = .returned (.tuple #[.bool true, .bool false, .bool z])) ∧ W = w' := fun W => by
    have h := uses_any c W
    rw [show (knownB c && ukB c) = true from by rw [hkb, huk]; rfl, show (knownB c && rjL.contains c) = false from by rw [hkb, huj]; rfl] at h
    exact h
  have HU := Lib.hid hu
  have hkn : ∀ W, Calls Tryd.prog 27 #[.int .u16 c] W fun e w' => e = .returned (.bool true) ∧ W = w' := fun W => by
    have h := rknown_any c W
    rw [hkb] at h
    exact h
  have HKN := Lib.hid hkn
  clear hu hkn
  have qJ : ∀ W, Calls Tryd.prog 29 #[.int .u16 c] W fun e w' => e = .returned (.bool false) ∧ W = w' := fun W => by
    have h := rjump_any c W
    rw [huj] at h
    exact h
  have HJ := Lib.hid qJ
  clear qJ
  have qO : ∀ W, Calls Tryd.prog 30 #[.int .u16 c] W fun e w' => e = .returned (.bool false) ∧ W = w' := fun W => by
    have h := rop_any c W
    rw [hop] at h
    exact h
  have HO := Lib.hid qO
  clear qO
  have qP : ∀ W, Calls Tryd.prog 31 #[.agg #[.int .u16 c, .int .u8 jt, .int .u8 jf, .int .u32 k]] W fun e w' => e = .returned (.string (bs (fillL (formL c) ⟨c, jt, jf, k⟩))) ∧ Below W.heap.size W w' := fun W => plain_any ⟨c, jt, jf, k⟩ W ⟨hc, hjt, hjf, hk⟩ hkb (by show (rjL.contains c || roL.contains c) = false; rw [huj, hop]; rfl)
  have HP := Lib.hid qP
  clear qP hc hjt hjf hk hkb huk huj hop
  go_enter Tryd.func10, Tryd.ntmps10
  go_wp2_with fail
  refine (HU.out _).mono ?_
  rintro e w2 ⟨⟨z, rfl⟩, rfl⟩
  go_wp2_with fail
  refine (HKN.out _).mono ?_
  rintro e w2 ⟨rfl, rfl⟩
  go_wp2_with fail
  refine (HJ.out _).mono ?_
  rintro e w2 ⟨rfl, rfl⟩
  go_wp2_with fail
  refine (HO.out _).mono ?_
  rintro e w2 ⟨rfl, rfl⟩
  go_wp2_with fail
  refine (HP.out _).mono ?_
  rintro e w2 ⟨rfl, hB2⟩
  have HB2 := Lib.hid (HB0.out.trans (hB2.mono (by simp)))
  clear hB2
  go_wp2_with fail
  go_ret
  exact ⟨rfl, HB2.out⟩
set_option maxRecDepth 100000 in
set_option maxHeartbeats 3200000 in
theorem rline_E2k (c jt jf k : Nat) (w : World) (hc : c ≤ 65535) (hjt : jt ≤ 255) (hjf : jf ≤ 255) (hk : k ≤ 4294967295) (hkb : knownB c = true) (huk : ukB c = true) (huj : rjL.contains c = false) (h3 : ((jt : Int) == 0) = true) (h4 : ((jt : Int) != 0) = false) (h5 : ((jf : Int) == 0) = true) (h6 : ((jf : Int) != 0) = false) (hop : roL.contains c = true) (hbx : byxB c = false) :
    Calls Tryd.prog 10 #[.agg #[.int .u16 c, .int .u8 jt, .int .u8 jf, .int .u32 k]] w fun e w' => e = .returned (.string (bs (opN c ++ ([32, 35] ++ dcl k)))) ∧ Below w.heap.size w w' := by
  have i0 : (0 : Int) ≤ (c : Int) := by omega
  have i1 : (c : Int) ≤ 65535 := by omega
  have i2 : (0 : Int) ≤ (jt : Int) := by omega
  have i3 : (jt : Int) ≤ 255 := by omega
  have i4 : (0 : Int) ≤ (jf : Int) := by omega
  have i5 : (jf : Int) ≤ 255 := by omega
  have wc : IntKind.u32.wrap (c : Int) = c := IntWalk.u32_in _ (by omega)
  have wt : IntKind.u32.wrap (jt : Int) = jt := IntWalk.u32_in _ (by omega)
  have wf : IntKind.u32.wrap (jf : Int) = jf := IntWalk.u32_in _ (by omega)
  have HB0 := Lib.hid ((Below.refl w.heap.size w).alloc (Nat.le_refl _) (objN ⟨c, jt, jf, k⟩))
  have hu : ∀ W, Calls Tryd.prog 26 #[.int .u16 c] W fun e w' => (∃ z, e = .returned (.tuple #[.bool true, .bool false, .bool z])) ∧ W = w' := fun W => by
    have h := uses_any c W
    rw [show (knownB c && ukB c) = true from by rw [hkb, huk]; rfl, show (knownB c && rjL.contains c) = false from by rw [hkb, huj]; rfl] at h
    exact h
  have HU := Lib.hid hu
  have hkn : ∀ W, Calls Tryd.prog 27 #[.int .u16 c] W fun e w' => e = .returned (.bool true) ∧ W = w' := fun W => by
    have h := rknown_any c W
    rw [hkb] at h
    exact h
  have HKN := Lib.hid hkn
  clear hu hkn
  have qJ : ∀ W, Calls Tryd.prog 29 #[.int .u16 c] W fun e w' => e = .returned (.bool false) ∧ W = w' := fun W => by
    have h := rjump_any c W
    rw [huj] at h
    exact h
  have HJ := Lib.hid qJ
  clear qJ
  have qO : ∀ W, Calls Tryd.prog 30 #[.int .u16 c] W fun e w' => e = .returned (.bool true) ∧ W = w' := fun W => by
    have h := rop_any c W
    rw [hop] at h
    exact h
  have HO := Lib.hid qO
  clear qO
  have qX : ∀ W, Calls Tryd.prog 33 #[.int .u16 c] W fun e w' => e = .returned (.bool false) ∧ W = w' := fun W => by
    have h := byx_any c W
    rw [hbx] at h
    exact h
  have HX := Lib.hid qX
  clear qX
  obtain ⟨O, hO⟩ : ∃ O, opN c = O := ⟨_, rfl⟩
  have lO : O.length ≤ 100 := by rw [← hO]; exact opN_len _
  have qO : ∀ W, Calls Tryd.prog 32 #[.int .u16 c] W fun e w' => e = .returned (.string (bs O)) ∧ W = w' := fun W => by
    have h := oper_any c W (by rw [huj, hop]; rfl)
    rw [hO] at h
    exact h
  have HOP := Lib.hid qO
  clear qO
  obtain ⟨D4, hD4⟩ : ∃ D, dcl k = D := ⟨_, rfl⟩
  have lD4 : D4.length ≤ 20 := by rw [← hD4]; exact dcl_len _
  have n4 : ∀ W, Calls Tryd.prog 28 #[.int .u32 k] W fun e w' => e = .returned (.string (bs D4)) ∧ Below W.heap.size W w' := fun W => by
    have h := num_any k W (by omega)
    rw [hD4] at h
    exact h
  have N4 := Lib.hid n4
  clear n4
  obtain ⟨E1, hE1⟩ : ∃ E, O ++ [32, 120] = E := ⟨_, rfl⟩
  have lE1 : E1.length ≤ 102 := by rw [← hE1]; simp only [List.length_append, List.length_cons, List.length_nil]; omega
  have aE1 : ∀ W, (Op.stringOp .add (bs O) ⟨#[32, 120]⟩).run Tryd.prog W = .ok (.string (bs E1)) W := fun W => add_two O [32, 120] _ (by first | omega | (simp only [List.length_append, List.length_cons, List.length_nil]; omega)) hE1 W
  obtain ⟨E2, hE2⟩ : ∃ E, O ++ [32, 35] = E := ⟨_, rfl⟩
  have lE2 : E2.length ≤ 102 := by rw [← hE2]; simp only [List.length_append, List.length_cons, List.length_nil]; omega
  have aE2 : ∀ W, (Op.stringOp .add (bs O) ⟨#[32, 35]⟩).run Tryd.prog W = .ok (.string (bs E2)) W := fun W => add_two O [32, 35] _ (by first | omega | (simp only [List.length_append, List.length_cons, List.length_nil]; omega)) hE2 W
  obtain ⟨E3, hE3⟩ : ∃ E, E2 ++ D4 = E := ⟨_, rfl⟩
  have lE3 : E3.length ≤ 122 := by rw [← hE3]; simp only [List.length_append, List.length_cons, List.length_nil]; omega
  have aE3 : ∀ W, (Op.stringOp .add (bs E2) (bs D4)).run Tryd.prog W = .ok (.string (bs E3)) W := fun W => add_two E2 D4 _ (by first | omega | (simp only [List.length_append, List.length_cons, List.length_nil]; omega)) hE3 W
  have hres : opN c ++ ([32, 35] ++ dcl k) = E3 := by
    rw [hO, hD4]
    rw [← hE3, ← hE2]
    try simp only [List.append_assoc, List.cons_append, List.nil_append]
  rw [hres]
  clear hres hE1 lE1 hE2 lE2 hE3 lE3 hO lO hD4 lD4 hc hjt hjf hk hkb huk huj hbx hop
  go_enter Tryd.func10, Tryd.ntmps10
  go_wp2_with fail
  refine (HU.out _).mono ?_
  rintro e w2 ⟨⟨z, rfl⟩, rfl⟩
  go_wp2_with fail
  refine (HKN.out _).mono ?_
  rintro e w2 ⟨rfl, rfl⟩
  go_wp2_with fail
  refine (HJ.out _).mono ?_
  rintro e w2 ⟨rfl, rfl⟩
  go_wp2_with fail
  refine (HO.out _).mono ?_
  rintro e w2 ⟨rfl, rfl⟩
  go_wp2_with fail
  refine (HOP.out _).mono ?_
  rintro e w2 ⟨rfl, rfl⟩
  go_wp2_with fail
  refine (HX.out _).mono ?_
  rintro e w2 ⟨rfl, rfl⟩
  go_upto_region 8 with fail
  go_region_held3 (fun w' => w'.cell? ⟨w.heap.size, 0, none⟩ = some (.int .u16 c) ∧ w'.cell? ⟨w.heap.size, 1, none⟩ = some (.int .u8 jt) ∧ w'.cell? ⟨w.heap.size, 2, none⟩ = some (.int .u8 jf) ∧ w'.cell? ⟨w.heap.size, 3, none⟩ = some (.int .u32 k) ∧ Below w.heap.size w w')
    (first | exact ⟨by simp [go_sem], by simp [go_sem], by simp [go_sem], by simp [go_sem], HB0.out.drew⟩ | exact ⟨by simp [go_sem], by simp [go_sem], by simp [go_sem], by simp [go_sem], HB0.out⟩ | exact keepL (by assumption) (by assumption) | assumption)
    (first
      | (go_at_call 32; with_reducible refine (HOP.out _).mono ?_; rintro e20 w20 ⟨rfl, rfl⟩)
      | (go_at_call 28; with_reducible refine (N4.out _).mono ?_; rintro e14 w14 ⟨rfl, hB14⟩))
  rename_i hH
  have HH := Lib.hid (lastL hH)
  clear hH
  go_wp2_with fail
  go_ret
  exact ⟨rfl, HH.out⟩
set_option maxRecDepth 100000 in
set_option maxHeartbeats 3200000 in
theorem rline_E2x (c jt jf k : Nat) (w : World) (hc : c ≤ 65535) (hjt : jt ≤ 255) (hjf : jf ≤ 255) (hk : k ≤ 4294967295) (hkb : knownB c = true) (huk : ukB c = true) (huj : rjL.contains c = false) (h3 : ((jt : Int) == 0) = true) (h4 : ((jt : Int) != 0) = false) (h5 : ((jf : Int) == 0) = true) (h6 : ((jf : Int) != 0) = false) (hop : roL.contains c = true) (hbx : byxB c = true) :
    Calls Tryd.prog 10 #[.agg #[.int .u16 c, .int .u8 jt, .int .u8 jf, .int .u32 k]] w fun e w' => e = .returned (.string (bs (opN c ++ [32, 120]))) ∧ Below w.heap.size w w' := by
  have i0 : (0 : Int) ≤ (c : Int) := by omega
  have i1 : (c : Int) ≤ 65535 := by omega
  have i2 : (0 : Int) ≤ (jt : Int) := by omega
  have i3 : (jt : Int) ≤ 255 := by omega
  have i4 : (0 : Int) ≤ (jf : Int) := by omega
  have i5 : (jf : Int) ≤ 255 := by omega
  have wc : IntKind.u32.wrap (c : Int) = c := IntWalk.u32_in _ (by omega)
  have wt : IntKind.u32.wrap (jt : Int) = jt := IntWalk.u32_in _ (by omega)
  have wf : IntKind.u32.wrap (jf : Int) = jf := IntWalk.u32_in _ (by omega)
  have HB0 := Lib.hid ((Below.refl w.heap.size w).alloc (Nat.le_refl _) (objN ⟨c, jt, jf, k⟩))
  have hu : ∀ W, Calls Tryd.prog 26 #[.int .u16 c] W fun e w' => (∃ z, e = .returned (.tuple #[.bool true, .bool false, .bool z])) ∧ W = w' := fun W => by
    have h := uses_any c W
    rw [show (knownB c && ukB c) = true from by rw [hkb, huk]; rfl, show (knownB c && rjL.contains c) = false from by rw [hkb, huj]; rfl] at h
    exact h
  have HU := Lib.hid hu
  have hkn : ∀ W, Calls Tryd.prog 27 #[.int .u16 c] W fun e w' => e = .returned (.bool true) ∧ W = w' := fun W => by
    have h := rknown_any c W
    rw [hkb] at h
    exact h
  have HKN := Lib.hid hkn
  clear hu hkn
  have qJ : ∀ W, Calls Tryd.prog 29 #[.int .u16 c] W fun e w' => e = .returned (.bool false) ∧ W = w' := fun W => by
    have h := rjump_any c W
    rw [huj] at h
    exact h
  have HJ := Lib.hid qJ
  clear qJ
  have qO : ∀ W, Calls Tryd.prog 30 #[.int .u16 c] W fun e w' => e = .returned (.bool true) ∧ W = w' := fun W => by
    have h := rop_any c W
    rw [hop] at h
    exact h
  have HO := Lib.hid qO
  clear qO
  have qX : ∀ W, Calls Tryd.prog 33 #[.int .u16 c] W fun e w' => e = .returned (.bool true) ∧ W = w' := fun W => by
    have h := byx_any c W
    rw [hbx] at h
    exact h
  have HX := Lib.hid qX
  clear qX
  obtain ⟨O, hO⟩ : ∃ O, opN c = O := ⟨_, rfl⟩
  have lO : O.length ≤ 100 := by rw [← hO]; exact opN_len _
  have qO : ∀ W, Calls Tryd.prog 32 #[.int .u16 c] W fun e w' => e = .returned (.string (bs O)) ∧ W = w' := fun W => by
    have h := oper_any c W (by rw [huj, hop]; rfl)
    rw [hO] at h
    exact h
  have HOP := Lib.hid qO
  clear qO
  obtain ⟨E1, hE1⟩ : ∃ E, O ++ [32, 120] = E := ⟨_, rfl⟩
  have lE1 : E1.length ≤ 102 := by rw [← hE1]; simp only [List.length_append, List.length_cons, List.length_nil]; omega
  have aE1 : ∀ W, (Op.stringOp .add (bs O) ⟨#[32, 120]⟩).run Tryd.prog W = .ok (.string (bs E1)) W := fun W => add_two O [32, 120] _ (by first | omega | (simp only [List.length_append, List.length_cons, List.length_nil]; omega)) hE1 W
  have hres : opN c ++ [32, 120] = E1 := by
    rw [hO]
    rw [← hE1]
    try simp only [List.append_assoc, List.cons_append, List.nil_append]
  rw [hres]
  clear hres hE1 lE1 hO lO  hc hjt hjf hk hkb huk huj hbx hop
  go_enter Tryd.func10, Tryd.ntmps10
  go_wp2_with fail
  refine (HU.out _).mono ?_
  rintro e w2 ⟨⟨z, rfl⟩, rfl⟩
  go_wp2_with fail
  refine (HKN.out _).mono ?_
  rintro e w2 ⟨rfl, rfl⟩
  go_wp2_with fail
  refine (HJ.out _).mono ?_
  rintro e w2 ⟨rfl, rfl⟩
  go_wp2_with fail
  refine (HO.out _).mono ?_
  rintro e w2 ⟨rfl, rfl⟩
  go_wp2_with fail
  refine (HOP.out _).mono ?_
  rintro e w2 ⟨rfl, rfl⟩
  go_wp2_with fail
  refine (HX.out _).mono ?_
  rintro e w2 ⟨rfl, rfl⟩
  go_wp2_with fail
  go_ret
  exact ⟨rfl, HB0.out⟩
set_option maxRecDepth 100000 in
set_option maxHeartbeats 3200000 in
theorem rline_E4p (c jt jf k : Nat) (w : World) (hc : c ≤ 65535) (hjt : jt ≤ 255) (hjf : jf ≤ 255) (hk : k ≤ 4294967295) (hkb : knownB c = true) (huk : ukB c = false) (huj : rjL.contains c = false) (h1 : ((k : Int) == 0) = true) (h2 : ((k : Int) != 0) = false) (h3 : ((jt : Int) == 0) = true) (h4 : ((jt : Int) != 0) = false) (h5 : ((jf : Int) == 0) = true) (h6 : ((jf : Int) != 0) = false) (hop : roL.contains c = false) :
    Calls Tryd.prog 10 #[.agg #[.int .u16 c, .int .u8 jt, .int .u8 jf, .int .u32 k]] w fun e w' => e = .returned (.string (bs (fillL (formL c) ⟨c, jt, jf, k⟩))) ∧ Below w.heap.size w w' := by
  have i0 : (0 : Int) ≤ (c : Int) := by omega
  have i1 : (c : Int) ≤ 65535 := by omega
  have i2 : (0 : Int) ≤ (jt : Int) := by omega
  have i3 : (jt : Int) ≤ 255 := by omega
  have i4 : (0 : Int) ≤ (jf : Int) := by omega
  have i5 : (jf : Int) ≤ 255 := by omega
  have wc : IntKind.u32.wrap (c : Int) = c := IntWalk.u32_in _ (by omega)
  have wt : IntKind.u32.wrap (jt : Int) = jt := IntWalk.u32_in _ (by omega)
  have wf : IntKind.u32.wrap (jf : Int) = jf := IntWalk.u32_in _ (by omega)
  have HB0 := Lib.hid ((Below.refl w.heap.size w).alloc (Nat.le_refl _) (objN ⟨c, jt, jf, k⟩))
  have hu : ∀ W, Calls Tryd.prog 26 #[.int .u16 c] W fun e w' => (∃ z, e = .returned (.tuple #[.bool false, .bool false, .bool z])) ∧ W = w' := fun W => by
    have h := uses_any c W
    rw [show (knownB c && ukB c) = false from by rw [hkb, huk]; rfl, show (knownB c && rjL.contains c) = false from by rw [hkb, huj]; rfl] at h
    exact h
  have HU := Lib.hid hu
  have hkn : ∀ W, Calls Tryd.prog 27 #[.int .u16 c] W fun e w' => e = .returned (.bool true) ∧ W = w' := fun W => by
    have h := rknown_any c W
    rw [hkb] at h
    exact h
  have HKN := Lib.hid hkn
  clear hu hkn
  have qJ : ∀ W, Calls Tryd.prog 29 #[.int .u16 c] W fun e w' => e = .returned (.bool false) ∧ W = w' := fun W => by
    have h := rjump_any c W
    rw [huj] at h
    exact h
  have HJ := Lib.hid qJ
  clear qJ
  have qO : ∀ W, Calls Tryd.prog 30 #[.int .u16 c] W fun e w' => e = .returned (.bool false) ∧ W = w' := fun W => by
    have h := rop_any c W
    rw [hop] at h
    exact h
  have HO := Lib.hid qO
  clear qO
  have qP : ∀ W, Calls Tryd.prog 31 #[.agg #[.int .u16 c, .int .u8 jt, .int .u8 jf, .int .u32 k]] W fun e w' => e = .returned (.string (bs (fillL (formL c) ⟨c, jt, jf, k⟩))) ∧ Below W.heap.size W w' := fun W => plain_any ⟨c, jt, jf, k⟩ W ⟨hc, hjt, hjf, hk⟩ hkb (by show (rjL.contains c || roL.contains c) = false; rw [huj, hop]; rfl)
  have HP := Lib.hid qP
  clear qP hc hjt hjf hk hkb huk huj hop
  go_enter Tryd.func10, Tryd.ntmps10
  go_wp2_with fail
  refine (HU.out _).mono ?_
  rintro e w2 ⟨⟨z, rfl⟩, rfl⟩
  go_wp2_with fail
  refine (HKN.out _).mono ?_
  rintro e w2 ⟨rfl, rfl⟩
  go_wp2_with fail
  refine (HJ.out _).mono ?_
  rintro e w2 ⟨rfl, rfl⟩
  go_wp2_with fail
  refine (HO.out _).mono ?_
  rintro e w2 ⟨rfl, rfl⟩
  go_wp2_with fail
  refine (HP.out _).mono ?_
  rintro e w2 ⟨rfl, hB2⟩
  have HB2 := Lib.hid (HB0.out.trans (hB2.mono (by simp)))
  clear hB2
  go_wp2_with fail
  go_ret
  exact ⟨rfl, HB2.out⟩
set_option maxRecDepth 100000 in
set_option maxHeartbeats 3200000 in
theorem rline_E4k (c jt jf k : Nat) (w : World) (hc : c ≤ 65535) (hjt : jt ≤ 255) (hjf : jf ≤ 255) (hk : k ≤ 4294967295) (hkb : knownB c = true) (huk : ukB c = false) (huj : rjL.contains c = false) (h1 : ((k : Int) == 0) = true) (h2 : ((k : Int) != 0) = false) (h3 : ((jt : Int) == 0) = true) (h4 : ((jt : Int) != 0) = false) (h5 : ((jf : Int) == 0) = true) (h6 : ((jf : Int) != 0) = false) (hop : roL.contains c = true) (hbx : byxB c = false) :
    Calls Tryd.prog 10 #[.agg #[.int .u16 c, .int .u8 jt, .int .u8 jf, .int .u32 k]] w fun e w' => e = .returned (.string (bs (opN c ++ ([32, 35] ++ dcl k)))) ∧ Below w.heap.size w w' := by
  have i0 : (0 : Int) ≤ (c : Int) := by omega
  have i1 : (c : Int) ≤ 65535 := by omega
  have i2 : (0 : Int) ≤ (jt : Int) := by omega
  have i3 : (jt : Int) ≤ 255 := by omega
  have i4 : (0 : Int) ≤ (jf : Int) := by omega
  have i5 : (jf : Int) ≤ 255 := by omega
  have wc : IntKind.u32.wrap (c : Int) = c := IntWalk.u32_in _ (by omega)
  have wt : IntKind.u32.wrap (jt : Int) = jt := IntWalk.u32_in _ (by omega)
  have wf : IntKind.u32.wrap (jf : Int) = jf := IntWalk.u32_in _ (by omega)
  have HB0 := Lib.hid ((Below.refl w.heap.size w).alloc (Nat.le_refl _) (objN ⟨c, jt, jf, k⟩))
  have hu : ∀ W, Calls Tryd.prog 26 #[.int .u16 c] W fun e w' => (∃ z, e = .returned (.tuple #[.bool false, .bool false, .bool z])) ∧ W = w' := fun W => by
    have h := uses_any c W
    rw [show (knownB c && ukB c) = false from by rw [hkb, huk]; rfl, show (knownB c && rjL.contains c) = false from by rw [hkb, huj]; rfl] at h
    exact h
  have HU := Lib.hid hu
  have hkn : ∀ W, Calls Tryd.prog 27 #[.int .u16 c] W fun e w' => e = .returned (.bool true) ∧ W = w' := fun W => by
    have h := rknown_any c W
    rw [hkb] at h
    exact h
  have HKN := Lib.hid hkn
  clear hu hkn
  have qJ : ∀ W, Calls Tryd.prog 29 #[.int .u16 c] W fun e w' => e = .returned (.bool false) ∧ W = w' := fun W => by
    have h := rjump_any c W
    rw [huj] at h
    exact h
  have HJ := Lib.hid qJ
  clear qJ
  have qO : ∀ W, Calls Tryd.prog 30 #[.int .u16 c] W fun e w' => e = .returned (.bool true) ∧ W = w' := fun W => by
    have h := rop_any c W
    rw [hop] at h
    exact h
  have HO := Lib.hid qO
  clear qO
  have qX : ∀ W, Calls Tryd.prog 33 #[.int .u16 c] W fun e w' => e = .returned (.bool false) ∧ W = w' := fun W => by
    have h := byx_any c W
    rw [hbx] at h
    exact h
  have HX := Lib.hid qX
  clear qX
  obtain ⟨O, hO⟩ : ∃ O, opN c = O := ⟨_, rfl⟩
  have lO : O.length ≤ 100 := by rw [← hO]; exact opN_len _
  have qO : ∀ W, Calls Tryd.prog 32 #[.int .u16 c] W fun e w' => e = .returned (.string (bs O)) ∧ W = w' := fun W => by
    have h := oper_any c W (by rw [huj, hop]; rfl)
    rw [hO] at h
    exact h
  have HOP := Lib.hid qO
  clear qO
  obtain ⟨D4, hD4⟩ : ∃ D, dcl k = D := ⟨_, rfl⟩
  have lD4 : D4.length ≤ 20 := by rw [← hD4]; exact dcl_len _
  have n4 : ∀ W, Calls Tryd.prog 28 #[.int .u32 k] W fun e w' => e = .returned (.string (bs D4)) ∧ Below W.heap.size W w' := fun W => by
    have h := num_any k W (by omega)
    rw [hD4] at h
    exact h
  have N4 := Lib.hid n4
  clear n4
  obtain ⟨E1, hE1⟩ : ∃ E, O ++ [32, 120] = E := ⟨_, rfl⟩
  have lE1 : E1.length ≤ 102 := by rw [← hE1]; simp only [List.length_append, List.length_cons, List.length_nil]; omega
  have aE1 : ∀ W, (Op.stringOp .add (bs O) ⟨#[32, 120]⟩).run Tryd.prog W = .ok (.string (bs E1)) W := fun W => add_two O [32, 120] _ (by first | omega | (simp only [List.length_append, List.length_cons, List.length_nil]; omega)) hE1 W
  obtain ⟨E2, hE2⟩ : ∃ E, O ++ [32, 35] = E := ⟨_, rfl⟩
  have lE2 : E2.length ≤ 102 := by rw [← hE2]; simp only [List.length_append, List.length_cons, List.length_nil]; omega
  have aE2 : ∀ W, (Op.stringOp .add (bs O) ⟨#[32, 35]⟩).run Tryd.prog W = .ok (.string (bs E2)) W := fun W => add_two O [32, 35] _ (by first | omega | (simp only [List.length_append, List.length_cons, List.length_nil]; omega)) hE2 W
  obtain ⟨E3, hE3⟩ : ∃ E, E2 ++ D4 = E := ⟨_, rfl⟩
  have lE3 : E3.length ≤ 122 := by rw [← hE3]; simp only [List.length_append, List.length_cons, List.length_nil]; omega
  have aE3 : ∀ W, (Op.stringOp .add (bs E2) (bs D4)).run Tryd.prog W = .ok (.string (bs E3)) W := fun W => add_two E2 D4 _ (by first | omega | (simp only [List.length_append, List.length_cons, List.length_nil]; omega)) hE3 W
  have hres : opN c ++ ([32, 35] ++ dcl k) = E3 := by
    rw [hO, hD4]
    rw [← hE3, ← hE2]
    try simp only [List.append_assoc, List.cons_append, List.nil_append]
  rw [hres]
  clear hres hE1 lE1 hE2 lE2 hE3 lE3 hO lO hD4 lD4 hc hjt hjf hk hkb huk huj hbx hop
  go_enter Tryd.func10, Tryd.ntmps10
  go_wp2_with fail
  refine (HU.out _).mono ?_
  rintro e w2 ⟨⟨z, rfl⟩, rfl⟩
  go_wp2_with fail
  refine (HKN.out _).mono ?_
  rintro e w2 ⟨rfl, rfl⟩
  go_wp2_with fail
  refine (HJ.out _).mono ?_
  rintro e w2 ⟨rfl, rfl⟩
  go_wp2_with fail
  refine (HO.out _).mono ?_
  rintro e w2 ⟨rfl, rfl⟩
  go_wp2_with fail
  refine (HOP.out _).mono ?_
  rintro e w2 ⟨rfl, rfl⟩
  go_wp2_with fail
  refine (HX.out _).mono ?_
  rintro e w2 ⟨rfl, rfl⟩
  go_upto_region 8 with fail
  go_region_held3 (fun w' => w'.cell? ⟨w.heap.size, 0, none⟩ = some (.int .u16 c) ∧ w'.cell? ⟨w.heap.size, 1, none⟩ = some (.int .u8 jt) ∧ w'.cell? ⟨w.heap.size, 2, none⟩ = some (.int .u8 jf) ∧ w'.cell? ⟨w.heap.size, 3, none⟩ = some (.int .u32 k) ∧ Below w.heap.size w w')
    (first | exact ⟨by simp [go_sem], by simp [go_sem], by simp [go_sem], by simp [go_sem], HB0.out.drew⟩ | exact ⟨by simp [go_sem], by simp [go_sem], by simp [go_sem], by simp [go_sem], HB0.out⟩ | exact keepL (by assumption) (by assumption) | assumption)
    (first
      | (go_at_call 32; with_reducible refine (HOP.out _).mono ?_; rintro e20 w20 ⟨rfl, rfl⟩)
      | (go_at_call 28; with_reducible refine (N4.out _).mono ?_; rintro e14 w14 ⟨rfl, hB14⟩))
  rename_i hH
  have HH := Lib.hid (lastL hH)
  clear hH
  go_wp2_with fail
  go_ret
  exact ⟨rfl, HH.out⟩
set_option maxRecDepth 100000 in
set_option maxHeartbeats 3200000 in
theorem rline_E4x (c jt jf k : Nat) (w : World) (hc : c ≤ 65535) (hjt : jt ≤ 255) (hjf : jf ≤ 255) (hk : k ≤ 4294967295) (hkb : knownB c = true) (huk : ukB c = false) (huj : rjL.contains c = false) (h1 : ((k : Int) == 0) = true) (h2 : ((k : Int) != 0) = false) (h3 : ((jt : Int) == 0) = true) (h4 : ((jt : Int) != 0) = false) (h5 : ((jf : Int) == 0) = true) (h6 : ((jf : Int) != 0) = false) (hop : roL.contains c = true) (hbx : byxB c = true) :
    Calls Tryd.prog 10 #[.agg #[.int .u16 c, .int .u8 jt, .int .u8 jf, .int .u32 k]] w fun e w' => e = .returned (.string (bs (opN c ++ [32, 120]))) ∧ Below w.heap.size w w' := by
  have i0 : (0 : Int) ≤ (c : Int) := by omega
  have i1 : (c : Int) ≤ 65535 := by omega
  have i2 : (0 : Int) ≤ (jt : Int) := by omega
  have i3 : (jt : Int) ≤ 255 := by omega
  have i4 : (0 : Int) ≤ (jf : Int) := by omega
  have i5 : (jf : Int) ≤ 255 := by omega
  have wc : IntKind.u32.wrap (c : Int) = c := IntWalk.u32_in _ (by omega)
  have wt : IntKind.u32.wrap (jt : Int) = jt := IntWalk.u32_in _ (by omega)
  have wf : IntKind.u32.wrap (jf : Int) = jf := IntWalk.u32_in _ (by omega)
  have HB0 := Lib.hid ((Below.refl w.heap.size w).alloc (Nat.le_refl _) (objN ⟨c, jt, jf, k⟩))
  have hu : ∀ W, Calls Tryd.prog 26 #[.int .u16 c] W fun e w' => (∃ z, e = .returned (.tuple #[.bool false, .bool false, .bool z])) ∧ W = w' := fun W => by
    have h := uses_any c W
    rw [show (knownB c && ukB c) = false from by rw [hkb, huk]; rfl, show (knownB c && rjL.contains c) = false from by rw [hkb, huj]; rfl] at h
    exact h
  have HU := Lib.hid hu
  have hkn : ∀ W, Calls Tryd.prog 27 #[.int .u16 c] W fun e w' => e = .returned (.bool true) ∧ W = w' := fun W => by
    have h := rknown_any c W
    rw [hkb] at h
    exact h
  have HKN := Lib.hid hkn
  clear hu hkn
  have qJ : ∀ W, Calls Tryd.prog 29 #[.int .u16 c] W fun e w' => e = .returned (.bool false) ∧ W = w' := fun W => by
    have h := rjump_any c W
    rw [huj] at h
    exact h
  have HJ := Lib.hid qJ
  clear qJ
  have qO : ∀ W, Calls Tryd.prog 30 #[.int .u16 c] W fun e w' => e = .returned (.bool true) ∧ W = w' := fun W => by
    have h := rop_any c W
    rw [hop] at h
    exact h
  have HO := Lib.hid qO
  clear qO
  have qX : ∀ W, Calls Tryd.prog 33 #[.int .u16 c] W fun e w' => e = .returned (.bool true) ∧ W = w' := fun W => by
    have h := byx_any c W
    rw [hbx] at h
    exact h
  have HX := Lib.hid qX
  clear qX
  obtain ⟨O, hO⟩ : ∃ O, opN c = O := ⟨_, rfl⟩
  have lO : O.length ≤ 100 := by rw [← hO]; exact opN_len _
  have qO : ∀ W, Calls Tryd.prog 32 #[.int .u16 c] W fun e w' => e = .returned (.string (bs O)) ∧ W = w' := fun W => by
    have h := oper_any c W (by rw [huj, hop]; rfl)
    rw [hO] at h
    exact h
  have HOP := Lib.hid qO
  clear qO
  obtain ⟨E1, hE1⟩ : ∃ E, O ++ [32, 120] = E := ⟨_, rfl⟩
  have lE1 : E1.length ≤ 102 := by rw [← hE1]; simp only [List.length_append, List.length_cons, List.length_nil]; omega
  have aE1 : ∀ W, (Op.stringOp .add (bs O) ⟨#[32, 120]⟩).run Tryd.prog W = .ok (.string (bs E1)) W := fun W => add_two O [32, 120] _ (by first | omega | (simp only [List.length_append, List.length_cons, List.length_nil]; omega)) hE1 W
  have hres : opN c ++ [32, 120] = E1 := by
    rw [hO]
    rw [← hE1]
    try simp only [List.append_assoc, List.cons_append, List.nil_append]
  rw [hres]
  clear hres hE1 lE1 hO lO  hc hjt hjf hk hkb huk huj hbx hop
  go_enter Tryd.func10, Tryd.ntmps10
  go_wp2_with fail
  refine (HU.out _).mono ?_
  rintro e w2 ⟨⟨z, rfl⟩, rfl⟩
  go_wp2_with fail
  refine (HKN.out _).mono ?_
  rintro e w2 ⟨rfl, rfl⟩
  go_wp2_with fail
  refine (HJ.out _).mono ?_
  rintro e w2 ⟨rfl, rfl⟩
  go_wp2_with fail
  refine (HO.out _).mono ?_
  rintro e w2 ⟨rfl, rfl⟩
  go_wp2_with fail
  refine (HOP.out _).mono ?_
  rintro e w2 ⟨rfl, rfl⟩
  go_wp2_with fail
  refine (HX.out _).mono ?_
  rintro e w2 ⟨rfl, rfl⟩
  go_wp2_with fail
  go_ret
  exact ⟨rfl, HB0.out⟩
theorem line_form (i : Ins) (h1 : knownB i.code = true) (h2 : ukB i.code = true ∨ i.k = 0) (h3 : rjL.contains i.code = true ∨ (i.jt = 0 ∧ i.jf = 0)) : lineL i = fillL (formL i.code) i := by
  obtain ⟨f1, f2, f3⟩ := uses_form i.code h1
  unfold lineL formOf
  rw [h1]
  have : shownB (formL i.code) i = true := by
    unfold shownB
    rw [← f1, ← f2, ← f3]
    have a : (i.k == 0 || ukB i.code) = true := by rcases h2 with h | h <;> rw [h] <;> simp
    have b : (i.jt == 0 || rjL.contains i.code) = true := by rcases h3 with h | ⟨h, _⟩ <;> rw [h] <;> simp
    have c : (i.jf == 0 || rjL.contains i.code) = true := by rcases h3 with h | ⟨_, h⟩ <;> rw [h] <;> simp
    rw [a, b, c]
    rfl
  rw [this]
  rfl
theorem line_raw1 (i : Ins) (h1 : knownB i.code = false) : lineL i = fillL rawL i := by
  unfold lineL formOf
  rw [h1]
  rfl
theorem line_raw2 (i : Ins) (h : knownB i.code = true) (h1 : shownB (formL i.code) i = false) : lineL i = fillL rawL i := by
  unfold lineL formOf
  rw [h, h1]
  rfl
theorem shown_k (i : Ins) (h : knownB i.code = true) (h1 : ukB i.code = false) (h2 : ¬ i.k = 0) : shownB (formL i.code) i = false := by
  obtain ⟨f1, f2, f3⟩ := uses_form i.code h
  unfold shownB
  rw [← f1, h1]
  simp [h2]
theorem shown_t (i : Ins) (h : knownB i.code = true) (h1 : rjL.contains i.code = false) (h2 : ¬ i.jt = 0) : shownB (formL i.code) i = false := by
  obtain ⟨f1, f2, f3⟩ := uses_form i.code h
  unfold shownB
  rw [← f2, h1]
  simp [h2]
theorem shown_f (i : Ins) (h : knownB i.code = true) (h1 : rjL.contains i.code = false) (h2 : ¬ i.jf = 0) : shownB (formL i.code) i = false := by
  obtain ⟨f1, f2, f3⟩ := uses_form i.code h
  unfold shownB
  rw [← f3, h1]
  simp [h2]
theorem rline_any (i : Ins) (w : World) (hi : InsOk i) : Calls Tryd.prog 10 #[aggN i] w fun e w' => e = .returned (.string (bs (lineL i))) ∧ Below w.heap.size w w' := by
  obtain ⟨h1, h2, h3, h4⟩ := hi
  cases hkb : knownB i.code with
  | false =>
    rw [line_raw1 i hkb, raw_line]
    exact rline_A i.code i.jt i.jf i.k w h1 h2 h3 h4 hkb
  | true =>
    by_cases hK : i.k = 0 <;> cases huk : ukB i.code
    case neg.false =>
      rw [line_raw2 i hkb (shown_k i hkb huk hK), raw_line]
      exact rline_B i.code i.jt i.jf i.k w h1 h2 h3 h4 hkb huk _ rfl (ne_true hK).1 (ne_true hK).2
    case pos.false =>
      cases huj : rjL.contains i.code with
      | true =>
        have hop : (rjL.contains i.code || roL.contains i.code) = true := by rw [huj]; rfl
        rw [line_form i hkb (.inr hK) (.inl huj), op_line i hop, huj]
        cases hbx : byxB i.code with
        | true => exact rline_E3x i.code i.jt i.jf i.k w h1 h2 h3 h4 hkb huk huj (ne_false hK).1 (ne_false hK).2 hbx
        | false => exact rline_E3k i.code i.jt i.jf i.k w h1 h2 h3 h4 hkb huk huj (ne_false hK).1 (ne_false hK).2 hbx
      | false =>
        by_cases hT : i.jt = 0
        · by_cases hF : i.jf = 0
          · cases hop : roL.contains i.code with
            | false =>
              rw [line_form i hkb (.inr hK) (.inr ⟨hT, hF⟩)]
              exact rline_E4p i.code i.jt i.jf i.k w h1 h2 h3 h4 hkb huk huj (ne_false hK).1 (ne_false hK).2 (ne_false hT).1 (ne_false hT).2 (ne_false hF).1 (ne_false hF).2 hop
            | true =>
              have hop2 : (rjL.contains i.code || roL.contains i.code) = true := by rw [hop, Bool.or_true]
              rw [line_form i hkb (.inr hK) (.inr ⟨hT, hF⟩), op_line i hop2, huj]
              cases hbx : byxB i.code with
              | true =>
                refine (rline_E4x i.code i.jt i.jf i.k w h1 h2 h3 h4 hkb huk huj (ne_false hK).1 (ne_false hK).2 (ne_false hT).1 (ne_false hT).2 (ne_false hF).1 (ne_false hF).2 hop hbx).mono ?_
                rintro e w' ⟨rfl, hB⟩
                exact ⟨by simp, hB⟩
              | false =>
                refine (rline_E4k i.code i.jt i.jf i.k w h1 h2 h3 h4 hkb huk huj (ne_false hK).1 (ne_false hK).2 (ne_false hT).1 (ne_false hT).2 (ne_false hF).1 (ne_false hF).2 hop hbx).mono ?_
                rintro e w' ⟨rfl, hB⟩
                exact ⟨by simp, hB⟩
          · rw [line_raw2 i hkb (shown_f i hkb huj hF), raw_line]
            exact rline_D2 i.code i.jt i.jf i.k w h1 h2 h3 h4 hkb huk huj (ne_false hK).1 (ne_false hK).2 (ne_false hT).1 (ne_false hT).2 (ne_true hF).1 (ne_true hF).2
        · rw [line_raw2 i hkb (shown_t i hkb huj hT), raw_line]
          exact rline_C2 i.code i.jt i.jf i.k w h1 h2 h3 h4 hkb huk huj (ne_false hK).1 (ne_false hK).2 (ne_true hT).1 (ne_true hT).2
    all_goals
      cases huj : rjL.contains i.code with
      | true =>
        have hop : (rjL.contains i.code || roL.contains i.code) = true := by rw [huj]; rfl
        rw [line_form i hkb (.inl huk) (.inl huj), op_line i hop, huj]
        cases hbx : byxB i.code with
        | true => exact rline_E1x i.code i.jt i.jf i.k w h1 h2 h3 h4 hkb huk huj hbx
        | false => exact rline_E1k i.code i.jt i.jf i.k w h1 h2 h3 h4 hkb huk huj hbx
      | false =>
        by_cases hT : i.jt = 0
        · by_cases hF : i.jf = 0
          · cases hop : roL.contains i.code with
            | false =>
              rw [line_form i hkb (.inl huk) (.inr ⟨hT, hF⟩)]
              exact rline_E2p i.code i.jt i.jf i.k w h1 h2 h3 h4 hkb huk huj (ne_false hT).1 (ne_false hT).2 (ne_false hF).1 (ne_false hF).2 hop
            | true =>
              have hop2 : (rjL.contains i.code || roL.contains i.code) = true := by rw [hop, Bool.or_true]
              rw [line_form i hkb (.inl huk) (.inr ⟨hT, hF⟩), op_line i hop2, huj]
              cases hbx : byxB i.code with
              | true =>
                refine (rline_E2x i.code i.jt i.jf i.k w h1 h2 h3 h4 hkb huk huj (ne_false hT).1 (ne_false hT).2 (ne_false hF).1 (ne_false hF).2 hop hbx).mono ?_
                rintro e w' ⟨rfl, hB⟩
                exact ⟨by simp, hB⟩
              | false =>
                refine (rline_E2k i.code i.jt i.jf i.k w h1 h2 h3 h4 hkb huk huj (ne_false hT).1 (ne_false hT).2 (ne_false hF).1 (ne_false hF).2 hop hbx).mono ?_
                rintro e w' ⟨rfl, hB⟩
                exact ⟨by simp, hB⟩
          · rw [line_raw2 i hkb (shown_f i hkb huj hF), raw_line]
            exact rline_D1 i.code i.jt i.jf i.k w h1 h2 h3 h4 hkb huk huj (ne_false hT).1 (ne_false hT).2 (ne_true hF).1 (ne_true hF).2
        · rw [line_raw2 i hkb (shown_t i hkb huj hT), raw_line]
          exact rline_C1 i.code i.jt i.jf i.k w h1 h2 h3 h4 hkb huk huj (ne_true hT).1 (ne_true hT).2
end Go.Proofs.YtckbcmoanadckaaDoor
