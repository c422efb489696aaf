/- The document's Line. -/
import Derived.Test.YtckbcmoanadckaaDoorUses
namespace Go.Proofs.YtckbcmoanadckaaDoor
open Go.RowKit Go.Shelf
set_option linter.unusedVariables false
set_option linter.unusedSimpArgs false

theorem uses_form (c : Nat) (h : knownB c = true) : ukB c = (formL c).contains 75 ∧ rjL.contains c = (formL c).contains 84 ∧ rjL.contains c = (formL c).contains 70 := by
  rw [all_known] at h
  have hm : c ∈ allL := by simpa using h
  simp only [allL, List.mem_cons, List.not_mem_nil, or_false] at hm
  rcases hm with rfl | rfl | rfl | rfl | rfl | rfl | rfl | rfl | rfl | rfl | rfl | rfl | rfl | rfl | rfl | rfl | rfl | rfl | rfl | rfl | rfl | rfl | rfl | rfl | rfl | rfl | rfl | rfl | rfl | rfl | rfl | rfl | rfl | rfl | rfl | rfl | rfl | rfl | rfl | rfl | rfl | rfl | rfl | rfl | rfl | rfl | rfl | rfl | rfl
  all_goals exact ⟨by kernel_rfl, by decide, by decide⟩
theorem opN_len (c : Nat) : (opN c).length ≤ 100 := by
  have h1 := formL_len c
  have h2 : (opN c).length ≤ (formL c).length := by
    unfold opN
    exact List.Sublist.length_le (List.takeWhile_sublist _)
  omega
theorem op_line (i : Ins) (h : (rjL.contains i.code || roL.contains i.code) = true) : fillL (formL i.code) i = opN i.code ++ (if byxB i.code then [32, 120] else [32, 35] ++ dcl i.k) ++ (if rjL.contains i.code then [32] ++ dcl i.jt ++ [32] ++ dcl i.jf else []) := by
  obtain ⟨c, jt, jf, k⟩ := i
  have hm : c ∈ rjL ∨ c ∈ roL := by simpa using h
  clear h
  rcases hm with hm | hm
  · simp only [rjL, List.mem_cons, List.not_mem_nil, or_false] at hm
    rcases hm with rfl | rfl | rfl | rfl | rfl | rfl | rfl | rfl
    · have hx : byxB 21 = false := by kernel_rfl
      have hj : rjL.contains 21 = true := by decide
      simp only [hx, hj]
      simp [fillL, formL, fillC, opN, List.takeWhile]
    · have hx : byxB 29 = true := by kernel_rfl
      have hj : rjL.contains 29 = true := by decide
      simp only [hx, hj]
      simp [fillL, formL, fillC, opN, List.takeWhile]
    · have hx : byxB 37 = false := by kernel_rfl
      have hj : rjL.contains 37 = true := by decide
      simp only [hx, hj]
      simp [fillL, formL, fillC, opN, List.takeWhile]
    · have hx : byxB 45 = true := by kernel_rfl
      have hj : rjL.contains 45 = true := by decide
      simp only [hx, hj]
      simp [fillL, formL, fillC, opN, List.takeWhile]
    · have hx : byxB 53 = false := by kernel_rfl
      have hj : rjL.contains 53 = true := by decide
      simp only [hx, hj]
      simp [fillL, formL, fillC, opN, List.takeWhile]
    · have hx : byxB 61 = true := by kernel_rfl
      have hj : rjL.contains 61 = true := by decide
      simp only [hx, hj]
      simp [fillL, formL, fillC, opN, List.takeWhile]
    · have hx : byxB 69 = false := by kernel_rfl
      have hj : rjL.contains 69 = true := by decide
      simp only [hx, hj]
      simp [fillL, formL, fillC, opN, List.takeWhile]
    · have hx : byxB 77 = true := by kernel_rfl
      have hj : rjL.contains 77 = true := by decide
      simp only [hx, hj]
      simp [fillL, formL, fillC, opN, List.takeWhile]
  · simp only [roL, List.mem_cons, List.not_mem_nil, or_false] at hm
    rcases hm with rfl | rfl | rfl | rfl | rfl | rfl | rfl | rfl | rfl | rfl | rfl | rfl | rfl | rfl | rfl | rfl | rfl | rfl | rfl | rfl
    · have hx : byxB 4 = false := by kernel_rfl
      have hj : rjL.contains 4 = false := by decide
      simp only [hx, hj]
      simp [fillL, formL, fillC, opN, List.takeWhile]
    · have hx : byxB 12 = true := by kernel_rfl
      have hj : rjL.contains 12 = false := by decide
      simp only [hx, hj]
      simp [fillL, formL, fillC, opN, List.takeWhile]
    · have hx : byxB 20 = false := by kernel_rfl
      have hj : rjL.contains 20 = false := by decide
      simp only [hx, hj]
      simp [fillL, formL, fillC, opN, List.takeWhile]
    · have hx : byxB 28 = true := by kernel_rfl
      have hj : rjL.contains 28 = false := by decide
      simp only [hx, hj]
      simp [fillL, formL, fillC, opN, List.takeWhile]
    · have hx : byxB 36 = false := by kernel_rfl
      have hj : rjL.contains 36 = false := by decide
      simp only [hx, hj]
      simp [fillL, formL, fillC, opN, List.takeWhile]
    · have hx : byxB 44 = true := by kernel_rfl
      have hj : rjL.contains 44 = false := by decide
      simp only [hx, hj]
      simp [fillL, formL, fillC, opN, List.takeWhile]
    · have hx : byxB 52 = false := by kernel_rfl
      have hj : rjL.contains 52 = false := by decide
      simp only [hx, hj]
      simp [fillL, formL, fillC, opN, List.takeWhile]
    · have hx : byxB 60 = true := by kernel_rfl
      have hj : rjL.contains 60 = false := by decide
      simp only [hx, hj]
      simp [fillL, formL, fillC, opN, List.takeWhile]
    · have hx : byxB 68 = false := by kernel_rfl
      have hj : rjL.contains 68 = false := by decide
      simp only [hx, hj]
      simp [fillL, formL, fillC, opN, List.takeWhile]
    · have hx : byxB 76 = true := by kernel_rfl
      have hj : rjL.contains 76 = false := by decide
      simp only [hx, hj]
      simp [fillL, formL, fillC, opN, List.takeWhile]
    · have hx : byxB 84 = false := by kernel_rfl
      have hj : rjL.contains 84 = false := by decide
      simp only [hx, hj]
      simp [fillL, formL, fillC, opN, List.takeWhile]
    · have hx : byxB 92 = true := by kernel_rfl
      have hj : rjL.contains 92 = false := by decide
      simp only [hx, hj]
      simp [fillL, formL, fillC, opN, List.takeWhile]
    · have hx : byxB 100 = false := by kernel_rfl
      have hj : rjL.contains 100 = false := by decide
      simp only [hx, hj]
      simp [fillL, formL, fillC, opN, List.takeWhile]
    · have hx : byxB 108 = true := by kernel_rfl
      have hj : rjL.contains 108 = false := by decide
      simp only [hx, hj]
      simp [fillL, formL, fillC, opN, List.takeWhile]
    · have hx : byxB 116 = false := by kernel_rfl
      have hj : rjL.contains 116 = false := by decide
      simp only [hx, hj]
      simp [fillL, formL, fillC, opN, List.takeWhile]
    · have hx : byxB 124 = true := by kernel_rfl
      have hj : rjL.contains 124 = false := by decide
      simp only [hx, hj]
      simp [fillL, formL, fillC, opN, List.takeWhile]
    · have hx : byxB 148 = false := by kernel_rfl
      have hj : rjL.contains 148 = false := by decide
      simp only [hx, hj]
      simp [fillL, formL, fillC, opN, List.takeWhile]
    · have hx : byxB 156 = true := by kernel_rfl
      have hj : rjL.contains 156 = false := by decide
      simp only [hx, hj]
      simp [fillL, formL, fillC, opN, List.takeWhile]
    · have hx : byxB 164 = false := by kernel_rfl
      have hj : rjL.contains 164 = false := by decide
      simp only [hx, hj]
      simp [fillL, formL, fillC, opN, List.takeWhile]
    · have hx : byxB 172 = true := by kernel_rfl
      have hj : rjL.contains 172 = false := by decide
      simp only [hx, hj]
      simp [fillL, formL, fillC, opN, List.takeWhile]
theorem raw_line (i : Ins) : fillL rawL i = [114, 97, 119, 32] ++ dcl i.code ++ [32] ++ dcl i.jt ++ [32] ++ dcl i.jf ++ [32] ++ dcl i.k := by
  simp [fillL, rawL, fillC]
theorem ne_true {n : Nat} (h : ¬ n = 0) : ((n : Int) == 0) = false ∧ ((n : Int) != 0) = true := by
  constructor <;> simp <;> omega
theorem ne_false {n : Nat} (h : n = 0) : ((n : Int) == 0) = true ∧ ((n : Int) != 0) = false := by
  subst h
  exact ⟨rfl, rfl⟩
theorem keepR {W V V' : World} {b : Nat} {c j f k : Value} (h : V.cell? ⟨b, 0, none⟩ = some c ∧ V.cell? ⟨b, 1, none⟩ = some j ∧ V.cell? ⟨b, 2, none⟩ = some f ∧ V.cell? ⟨b, 3, none⟩ = some k ∧ Below W.heap.size W V) (hb : Below V.heap.size V V') :
    V'.cell? ⟨b, 0, none⟩ = some c ∧ V'.cell? ⟨b, 1, none⟩ = some j ∧ V'.cell? ⟨b, 2, none⟩ = some f ∧ V'.cell? ⟨b, 3, none⟩ = some k ∧ Below W.heap.size W V' := keepL h hb
set_option maxRecDepth 100000 in
set_option maxHeartbeats 3200000 in
theorem rline_A (c jt jf k : Nat) (w : World) (hc : c ≤ 65535) (hjt : jt ≤ 255) (hjf : jf ≤ 255) (hk : k ≤ 4294967295) (hkb : knownB c = false) :
    Calls Tryd.prog 10 #[.agg #[.int .u16 c, .int .u8 jt, .int .u8 jf, .int .u32 k]] w fun e w' => e = .returned (.string (bs ([114, 97, 119, 32] ++ dcl c ++ [32] ++ dcl jt ++ [32] ++ dcl jf ++ [32] ++ dcl k))) ∧ Below w.heap.size w w' := by
  have i0 : (0 : Int) ≤ (c : Int) := by omega
  have i1 : (c : Int) ≤ 65535 := by omega
  have i2 : (0 : Int) ≤ (jt : Int) := by omega
  have i3 : (jt : Int) ≤ 255 := by omega
  have i4 : (0 : Int) ≤ (jf : Int) := by omega
  have i5 : (jf : Int) ≤ 255 := by omega
  have wc : IntKind.u32.wrap (c : Int) = c := IntWalk.u32_in _ (by omega)
  have wt : IntKind.u32.wrap (jt : Int) = jt := IntWalk.u32_in _ (by omega)
  have wf : IntKind.u32.wrap (jf : Int) = jf := IntWalk.u32_in _ (by omega)
  have HB0 := Lib.hid ((Below.refl w.heap.size w).alloc (Nat.le_refl _) (objN ⟨c, jt, jf, k⟩))
  have hu : ∀ W, Calls Tryd.prog 26 #[.int .u16 c] W fun e w' => (∃ z, e = .returned (.tuple #[.bool false, .bool false, .bool z])) ∧ W = w' := fun W => by
    have h := uses_any c W
    rw [show (knownB c && ukB c) = false from by rw [hkb]; rfl, show (knownB c && rjL.contains c) = false from by rw [hkb]; rfl] at h
    exact h
  have HU := Lib.hid hu
  have hkn : ∀ W, Calls Tryd.prog 27 #[.int .u16 c] W fun e w' => e = .returned (.bool false) ∧ W = w' := fun W => by
    have h := rknown_any c W
    rw [hkb] at h
    exact h
  have HKN := Lib.hid hkn
  clear hu hkn
  obtain ⟨D1, hD1⟩ : ∃ D, dcl c = D := ⟨_, rfl⟩
  have lD1 : D1.length ≤ 20 := by rw [← hD1]; exact dcl_len _
  have n1 : ∀ W, Calls Tryd.prog 28 #[.int .u32 c] W fun e w' => e = .returned (.string (bs D1)) ∧ Below W.heap.size W w' := fun W => by
    have h := num_any c W (by omega)
    rw [hD1] at h
    exact h
  have N1 := Lib.hid n1
  clear n1
  obtain ⟨D2, hD2⟩ : ∃ D, dcl jt = D := ⟨_, rfl⟩
  have lD2 : D2.length ≤ 20 := by rw [← hD2]; exact dcl_len _
  have n2 : ∀ W, Calls Tryd.prog 28 #[.int .u32 jt] W fun e w' => e = .returned (.string (bs D2)) ∧ Below W.heap.size W w' := fun W => by
    have h := num_any jt W (by omega)
    rw [hD2] at h
    exact h
  have N2 := Lib.hid n2
  clear n2
  obtain ⟨D3, hD3⟩ : ∃ D, dcl jf = D := ⟨_, rfl⟩
  have lD3 : D3.length ≤ 20 := by rw [← hD3]; exact dcl_len _
  have n3 : ∀ W, Calls Tryd.prog 28 #[.int .u32 jf] W fun e w' => e = .returned (.string (bs D3)) ∧ Below W.heap.size W w' := fun W => by
    have h := num_any jf W (by omega)
    rw [hD3] at h
    exact h
  have N3 := Lib.hid n3
  clear n3
  obtain ⟨D4, hD4⟩ : ∃ D, dcl k = D := ⟨_, rfl⟩
  have lD4 : D4.length ≤ 20 := by rw [← hD4]; exact dcl_len _
  have n4 : ∀ W, Calls Tryd.prog 28 #[.int .u32 k] W fun e w' => e = .returned (.string (bs D4)) ∧ Below W.heap.size W w' := fun W => by
    have h := num_any k W (by omega)
    rw [hD4] at h
    exact h
  have N4 := Lib.hid n4
  clear n4
  rw [hD1, hD2, hD3, hD4]
  obtain ⟨E1, hE1⟩ : ∃ E, [114, 97, 119, 32] ++ D1 = E := ⟨_, rfl⟩
  have lE1 : E1.length ≤ 24 := by rw [← hE1]; simp only [List.length_append, List.length_cons, List.length_nil]; omega
  have aE1 : ∀ W, (Op.stringOp .add ⟨#[114, 97, 119, 32]⟩ (bs D1)).run Tryd.prog W = .ok (.string (bs E1)) W := fun W => add_two [114, 97, 119, 32] D1 _ (by first | omega | (simp only [List.length_append, List.length_cons, List.length_nil]; omega)) hE1 W
  obtain ⟨E2, hE2⟩ : ∃ E, E1 ++ [32] = E := ⟨_, rfl⟩
  have lE2 : E2.length ≤ 25 := by rw [← hE2]; simp only [List.length_append, List.length_cons, List.length_nil]; omega
  have aE2 : ∀ W, (Op.stringOp .add (bs E1) ⟨#[32]⟩).run Tryd.prog W = .ok (.string (bs E2)) W := fun W => add_two E1 [32] _ (by first | omega | (simp only [List.length_append, List.length_cons, List.length_nil]; omega)) hE2 W
  obtain ⟨E3, hE3⟩ : ∃ E, E2 ++ D2 = E := ⟨_, rfl⟩
  have lE3 : E3.length ≤ 45 := by rw [← hE3]; simp only [List.length_append, List.length_cons, List.length_nil]; omega
  have aE3 : ∀ W, (Op.stringOp .add (bs E2) (bs D2)).run Tryd.prog W = .ok (.string (bs E3)) W := fun W => add_two E2 D2 _ (by first | omega | (simp only [List.length_append, List.length_cons, List.length_nil]; omega)) hE3 W
  obtain ⟨E4, hE4⟩ : ∃ E, E3 ++ [32] = E := ⟨_, rfl⟩
  have lE4 : E4.length ≤ 46 := by rw [← hE4]; simp only [List.length_append, List.length_cons, List.length_nil]; omega
  have aE4 : ∀ W, (Op.stringOp .add (bs E3) ⟨#[32]⟩).run Tryd.prog W = .ok (.string (bs E4)) W := fun W => add_two E3 [32] _ (by first | omega | (simp only [List.length_append, List.length_cons, List.length_nil]; omega)) hE4 W
  obtain ⟨E5, hE5⟩ : ∃ E, E4 ++ D3 = E := ⟨_, rfl⟩
  have lE5 : E5.length ≤ 66 := by rw [← hE5]; simp only [List.length_append, List.length_cons, List.length_nil]; omega
  have aE5 : ∀ W, (Op.stringOp .add (bs E4) (bs D3)).run Tryd.prog W = .ok (.string (bs E5)) W := fun W => add_two E4 D3 _ (by first | omega | (simp only [List.length_append, List.length_cons, List.length_nil]; omega)) hE5 W
  obtain ⟨E6, hE6⟩ : ∃ E, E5 ++ [32] = E := ⟨_, rfl⟩
  have lE6 : E6.length ≤ 67 := by rw [← hE6]; simp only [List.length_append, List.length_cons, List.length_nil]; omega
  have aE6 : ∀ W, (Op.stringOp .add (bs E5) ⟨#[32]⟩).run Tryd.prog W = .ok (.string (bs E6)) W := fun W => add_two E5 [32] _ (by first | omega | (simp only [List.length_append, List.length_cons, List.length_nil]; omega)) hE6 W
  obtain ⟨E7, hE7⟩ : ∃ E, E6 ++ D4 = E := ⟨_, rfl⟩
  have lE7 : E7.length ≤ 87 := by rw [← hE7]; simp only [List.length_append, List.length_cons, List.length_nil]; omega
  have aE7 : ∀ W, (Op.stringOp .add (bs E6) (bs D4)).run Tryd.prog W = .ok (.string (bs E7)) W := fun W => add_two E6 D4 _ (by first | omega | (simp only [List.length_append, List.length_cons, List.length_nil]; omega)) hE7 W
  rw [hE1, hE2, hE3, hE4, hE5, hE6, hE7]
  clear hE1 hE2 hE3 hE4 hE5 hE6 hE7 lE1 lE2 lE3 lE4 lE5 lE6 lE7 lD1 lD2 lD3 lD4 hD1 hD2 hD3 hD4 hc hjt hjf hk hkb
  go_enter Tryd.func10, Tryd.ntmps10
  go_wp2_with fail
  refine (HU.out _).mono ?_
  rintro e w2 ⟨⟨z, rfl⟩, rfl⟩
  go_wp2_with fail
  refine (HKN.out _).mono ?_
  rintro e w2 ⟨rfl, rfl⟩
  go_upto_region 3 with fail
  go_region_held3 (fun w' => w'.cell? ⟨w.heap.size, 0, none⟩ = some (.int .u16 c) ∧ w'.cell? ⟨w.heap.size, 1, none⟩ = some (.int .u8 jt) ∧ w'.cell? ⟨w.heap.size, 2, none⟩ = some (.int .u8 jf) ∧ w'.cell? ⟨w.heap.size, 3, none⟩ = some (.int .u32 k) ∧ Below w.heap.size w w')
    (first | exact ⟨by simp [go_sem], by simp [go_sem], by simp [go_sem], by simp [go_sem], HB0.out.drew⟩ | exact ⟨by simp [go_sem], by simp [go_sem], by simp [go_sem], by simp [go_sem], HB0.out⟩ | exact keepL (by assumption) (by assumption) | assumption)
    (first
      | (go_at_call 28; with_reducible refine (N1.out _).mono ?_; rintro e11 w11 ⟨rfl, hB11⟩)
      | (go_at_call 28; with_reducible refine (N2.out _).mono ?_; rintro e12 w12 ⟨rfl, hB12⟩)
      | (go_at_call 28; with_reducible refine (N3.out _).mono ?_; rintro e13 w13 ⟨rfl, hB13⟩)
      | (go_at_call 28; with_reducible refine (N4.out _).mono ?_; rintro e14 w14 ⟨rfl, hB14⟩))
  rename_i hH
  have HH := Lib.hid (lastL hH)
  clear hH
  go_wp2_with fail
  go_ret
  exact ⟨rfl, HH.out⟩
set_option maxRecDepth 100000 in
set_option maxHeartbeats 3200000 in
theorem rline_B (c jt jf k : Nat) (w : World) (hc : c ≤ 65535) (hjt : jt ≤ 255) (hjf : jf ≤ 255) (hk : k ≤ 4294967295) (hkb : knownB c = true) (huk : ukB c = false) (vj : Bool) (huj : rjL.contains c = vj) (h1 : ((k : Int) == 0) = false) (h2 : ((k : Int) != 0) = true) :
    Calls Tryd.prog 10 #[.agg #[.int .u16 c, .int .u8 jt, .int .u8 jf, .int .u32 k]] w fun e w' => e = .returned (.string (bs ([114, 97, 119, 32] ++ dcl c ++ [32] ++ dcl jt ++ [32] ++ dcl jf ++ [32] ++ dcl k))) ∧ Below w.heap.size w w' := by
  have i0 : (0 : Int) ≤ (c : Int) := by omega
  have i1 : (c : Int) ≤ 65535 := by omega
  have i2 : (0 : Int) ≤ (jt : Int) := by omega
  have i3 : (jt : Int) ≤ 255 := by omega
  have i4 : (0 : Int) ≤ (jf : Int) := by omega
  have i5 : (jf : Int) ≤ 255 := by omega
  have wc : IntKind.u32.wrap (c : Int) = c := IntWalk.u32_in _ (by omega)
  have wt : IntKind.u32.wrap (jt : Int) = jt := IntWalk.u32_in _ (by omega)
  have wf : IntKind.u32.wrap (jf : Int) = jf := IntWalk.u32_in _ (by omega)
  have HB0 := Lib.hid ((Below.refl w.heap.size w).alloc (Nat.le_refl _) (objN ⟨c, jt, jf, k⟩))
  have hu : ∀ W, Calls Tryd.prog 26 #[.int .u16 c] W fun e w' => (∃ z, e = .returned (.tuple #[.bool false, .bool vj, .bool z])) ∧ W = w' := fun W => by
    have h := uses_any c W
    rw [show (knownB c && ukB c) = false from by rw [hkb, huk]; rfl, show (knownB c && rjL.contains c) = vj from by rw [hkb, huj]; rfl] at h
    exact h
  have HU := Lib.hid hu
  have hkn : ∀ W, Calls Tryd.prog 27 #[.int .u16 c] W fun e w' => e = .returned (.bool true) ∧ W = w' := fun W => by
    have h := rknown_any c W
    rw [hkb] at h
    exact h
  have HKN := Lib.hid hkn
  clear hu hkn
  obtain ⟨D1, hD1⟩ : ∃ D, dcl c = D := ⟨_, rfl⟩
  have lD1 : D1.length ≤ 20 := by rw [← hD1]; exact dcl_len _
  have n1 : ∀ W, Calls Tryd.prog 28 #[.int .u32 c] W fun e w' => e = .returned (.string (bs D1)) ∧ Below W.heap.size W w' := fun W => by
    have h := num_any c W (by omega)
    rw [hD1] at h
    exact h
  have N1 := Lib.hid n1
  clear n1
  obtain ⟨D2, hD2⟩ : ∃ D, dcl jt = D := ⟨_, rfl⟩
  have lD2 : D2.length ≤ 20 := by rw [← hD2]; exact dcl_len _
  have n2 : ∀ W, Calls Tryd.prog 28 #[.int .u32 jt] W fun e w' => e = .returned (.string (bs D2)) ∧ Below W.heap.size W w' := fun W => by
    have h := num_any jt W (by omega)
    rw [hD2] at h
    exact h
  have N2 := Lib.hid n2
  clear n2
  obtain ⟨D3, hD3⟩ : ∃ D, dcl jf = D := ⟨_, rfl⟩
  have lD3 : D3.length ≤ 20 := by rw [← hD3]; exact dcl_len _
  have n3 : ∀ W, Calls Tryd.prog 28 #[.int .u32 jf] W fun e w' => e = .returned (.string (bs D3)) ∧ Below W.heap.size W w' := fun W => by
    have h := num_any jf W (by omega)
    rw [hD3] at h
    exact h
  have N3 := Lib.hid n3
  clear n3
  obtain ⟨D4, hD4⟩ : ∃ D, dcl k = D := ⟨_, rfl⟩
  have lD4 : D4.length ≤ 20 := by rw [← hD4]; exact dcl_len _
  have n4 : ∀ W, Calls Tryd.prog 28 #[.int .u32 k] W fun e w' => e = .returned (.string (bs D4)) ∧ Below W.heap.size W w' := fun W => by
    have h := num_any k W (by omega)
    rw [hD4] at h
    exact h
  have N4 := Lib.hid n4
  clear n4
  rw [hD1, hD2, hD3, hD4]
  obtain ⟨E1, hE1⟩ : ∃ E, [114, 97, 119, 32] ++ D1 = E := ⟨_, rfl⟩
  have lE1 : E1.length ≤ 24 := by rw [← hE1]; simp only [List.length_append, List.length_cons, List.length_nil]; omega
  have aE1 : ∀ W, (Op.stringOp .add ⟨#[114, 97, 119, 32]⟩ (bs D1)).run Tryd.prog W = .ok (.string (bs E1)) W := fun W => add_two [114, 97, 119, 32] D1 _ (by first | omega | (simp only [List.length_append, List.length_cons, List.length_nil]; omega)) hE1 W
  obtain ⟨E2, hE2⟩ : ∃ E, E1 ++ [32] = E := ⟨_, rfl⟩
  have lE2 : E2.length ≤ 25 := by rw [← hE2]; simp only [List.length_append, List.length_cons, List.length_nil]; omega
  have aE2 : ∀ W, (Op.stringOp .add (bs E1) ⟨#[32]⟩).run Tryd.prog W = .ok (.string (bs E2)) W := fun W => add_two E1 [32] _ (by first | omega | (simp only [List.length_append, List.length_cons, List.length_nil]; omega)) hE2 W
  obtain ⟨E3, hE3⟩ : ∃ E, E2 ++ D2 = E := ⟨_, rfl⟩
  have lE3 : E3.length ≤ 45 := by rw [← hE3]; simp only [List.length_append, List.length_cons, List.length_nil]; omega
  have aE3 : ∀ W, (Op.stringOp .add (bs E2) (bs D2)).run Tryd.prog W = .ok (.string (bs E3)) W := fun W => add_two E2 D2 _ (by first | omega | (simp only [List.length_append, List.length_cons, List.length_nil]; omega)) hE3 W
  obtain ⟨E4, hE4⟩ : ∃ E, E3 ++ [32] = E := ⟨_, rfl⟩
  have lE4 : E4.length ≤ 46 := by rw [← hE4]; simp only [List.length_append, List.length_cons, List.length_nil]; omega
  have aE4 : ∀ W, (Op.stringOp .add (bs E3) ⟨#[32]⟩).run Tryd.prog W = .ok (.string (bs E4)) W := fun W => add_two E3 [32] _ (by first | omega | (simp only [List.length_append, List.length_cons, List.length_nil]; omega)) hE4 W
  obtain ⟨E5, hE5⟩ : ∃ E, E4 ++ D3 = E := ⟨_, rfl⟩
  have lE5 : E5.length ≤ 66 := by rw [← hE5]; simp only [List.length_append, List.length_cons, List.length_nil]; omega
  have aE5 : ∀ W, (Op.stringOp .add (bs E4) (bs D3)).run Tryd.prog W = .ok (.string (bs E5)) W := fun W => add_two E4 D3 _ (by first | omega | (simp only [List.length_append, List.length_cons, List.length_nil]; omega)) hE5 W
  obtain ⟨E6, hE6⟩ : ∃ E, E5 ++ [32] = E := ⟨_, rfl⟩
  have lE6 : E6.length ≤ 67 := by rw [← hE6]; simp only [List.length_append, List.length_cons, List.length_nil]; omega
  have aE6 : ∀ W, (Op.stringOp .add (bs E5) ⟨#[32]⟩).run Tryd.prog W = .ok (.string (bs E6)) W := fun W => add_two E5 [32] _ (by first | omega | (simp only [List.length_append, List.length_cons, List.length_nil]; omega)) hE6 W
  obtain ⟨E7, hE7⟩ : ∃ E, E6 ++ D4 = E := ⟨_, rfl⟩
  have lE7 : E7.length ≤ 87 := by rw [← hE7]; simp only [List.length_append, List.length_cons, List.length_nil]; omega
  have aE7 : ∀ W, (Op.stringOp .add (bs E6) (bs D4)).run Tryd.prog W = .ok (.string (bs E7)) W := fun W => add_two E6 D4 _ (by first | omega | (simp only [List.length_append, List.length_cons, List.length_nil]; omega)) hE7 W
  rw [hE1, hE2, hE3, hE4, hE5, hE6, hE7]
  clear hE1 hE2 hE3 hE4 hE5 hE6 hE7 lE1 lE2 lE3 lE4 lE5 lE6 lE7 lD1 lD2 lD3 lD4 hD1 hD2 hD3 hD4 hc hjt hjf hk hkb huk huj
  go_enter Tryd.func10, Tryd.ntmps10
  go_wp2_with fail
  refine (HU.out _).mono ?_
  rintro e w2 ⟨⟨z, rfl⟩, rfl⟩
  go_wp2_with fail
  refine (HKN.out _).mono ?_
  rintro e w2 ⟨rfl, rfl⟩
  go_upto_region 3 with fail
  go_region_held3 (fun w' => w'.cell? ⟨w.heap.size, 0, none⟩ = some (.int .u16 c) ∧ w'.cell? ⟨w.heap.size, 1, none⟩ = some (.int .u8 jt) ∧ w'.cell? ⟨w.heap.size, 2, none⟩ = some (.int .u8 jf) ∧ w'.cell? ⟨w.heap.size, 3, none⟩ = some (.int .u32 k) ∧ Below w.heap.size w w')
    (first | exact ⟨by simp [go_sem], by simp [go_sem], by simp [go_sem], by simp [go_sem], HB0.out.drew⟩ | exact ⟨by simp [go_sem], by simp [go_sem], by simp [go_sem], by simp [go_sem], HB0.out⟩ | exact keepL (by assumption) (by assumption) | assumption)
    (first
      | (go_at_call 28; with_reducible refine (N1.out _).mono ?_; rintro e11 w11 ⟨rfl, hB11⟩)
      | (go_at_call 28; with_reducible refine (N2.out _).mono ?_; rintro e12 w12 ⟨rfl, hB12⟩)
      | (go_at_call 28; with_reducible refine (N3.out _).mono ?_; rintro e13 w13 ⟨rfl, hB13⟩)
      | (go_at_call 28; with_reducible refine (N4.out _).mono ?_; rintro e14 w14 ⟨rfl, hB14⟩))
  rename_i hH
  have HH := Lib.hid (lastL hH)
  clear hH
  go_wp2_with fail
  go_ret
  exact ⟨rfl, HH.out⟩
set_option maxRecDepth 100000 in
set_option maxHeartbeats 3200000 in
theorem rline_C1 (c jt jf k : Nat) (w : World) (hc : c ≤ 65535) (hjt : jt ≤ 255) (hjf : jf ≤ 255) (hk : k ≤ 4294967295) (hkb : knownB c = true) (huk : ukB c = true) (huj : rjL.contains c = false) (h3 : ((jt : Int) == 0) = false) (h4 : ((jt : Int) != 0) = true) :
    Calls Tryd.prog 10 #[.agg #[.int .u16 c, .int .u8 jt, .int .u8 jf, .int .u32 k]] w fun e w' => e = .returned (.string (bs ([114, 97, 119, 32] ++ dcl c ++ [32] ++ dcl jt ++ [32] ++ dcl jf ++ [32] ++ dcl k))) ∧ Below w.heap.size w w' := by
  have i0 : (0 : Int) ≤ (c : Int) := by omega
  have i1 : (c : Int) ≤ 65535 := by omega
  have i2 : (0 : Int) ≤ (jt : Int) := by omega
  have i3 : (jt : Int) ≤ 255 := by omega
  have i4 : (0 : Int) ≤ (jf : Int) := by omega
  have i5 : (jf : Int) ≤ 255 := by omega
  have wc : IntKind.u32.wrap (c : Int) = c := IntWalk.u32_in _ (by omega)
  have wt : IntKind.u32.wrap (jt : Int) = jt := IntWalk.u32_in _ (by omega)
  have wf : IntKind.u32.wrap (jf : Int) = jf := IntWalk.u32_in _ (by omega)
  have HB0 := Lib.hid ((Below.refl w.heap.size w).alloc (Nat.le_refl _) (objN ⟨c, jt, jf, k⟩))
  have hu : ∀ W, Calls Tryd.prog 26 #[.int .u16 c] W fun e w' => (∃ z, e = .returned (.tuple #[.bool true, .bool false, .bool z])) ∧ W = w' := fun W => by
    have h := uses_any c W
    rw [show (knownB c && ukB c) = true from by rw [hkb, huk]; rfl, show (knownB c && rjL.contains c) = false from by rw [hkb, huj]; rfl] at h
    exact h
  have HU := Lib.hid hu
  have hkn : ∀ W, Calls Tryd.prog 27 #[.int .u16 c] W fun e w' => e = .returned (.bool true) ∧ W = w' := fun W => by
    have h := rknown_any c W
    rw [hkb] at h
    exact h
  have HKN := Lib.hid hkn
  clear hu hkn
  obtain ⟨D1, hD1⟩ : ∃ D, dcl c = D := ⟨_, rfl⟩
  have lD1 : D1.length ≤ 20 := by rw [← hD1]; exact dcl_len _
  have n1 : ∀ W, Calls Tryd.prog 28 #[.int .u32 c] W fun e w' => e = .returned (.string (bs D1)) ∧ Below W.heap.size W w' := fun W => by
    have h := num_any c W (by omega)
    rw [hD1] at h
    exact h
  have N1 := Lib.hid n1
  clear n1
  obtain ⟨D2, hD2⟩ : ∃ D, dcl jt = D := ⟨_, rfl⟩
  have lD2 : D2.length ≤ 20 := by rw [← hD2]; exact dcl_len _
  have n2 : ∀ W, Calls Tryd.prog 28 #[.int .u32 jt] W fun e w' => e = .returned (.string (bs D2)) ∧ Below W.heap.size W w' := fun W => by
    have h := num_any jt W (by omega)
    rw [hD2] at h
    exact h
  have N2 := Lib.hid n2
  clear n2
  obtain ⟨D3, hD3⟩ : ∃ D, dcl jf = D := ⟨_, rfl⟩
  have lD3 : D3.length ≤ 20 := by rw [← hD3]; exact dcl_len _
  have n3 : ∀ W, Calls Tryd.prog 28 #[.int .u32 jf] W fun e w' => e = .returned (.string (bs D3)) ∧ Below W.heap.size W w' := fun W => by
    have h := num_any jf W (by omega)
    rw [hD3] at h
    exact h
  have N3 := Lib.hid n3
  clear n3
  obtain ⟨D4, hD4⟩ : ∃ D, dcl k = D := ⟨_, rfl⟩
  have lD4 : D4.length ≤ 20 := by rw [← hD4]; exact dcl_len _
  have n4 : ∀ W, Calls Tryd.prog 28 #[.int .u32 k] W fun e w' => e = .returned (.string (bs D4)) ∧ Below W.heap.size W w' := fun W => by
    have h := num_any k W (by omega)
    rw [hD4] at h
    exact h
  have N4 := Lib.hid n4
  clear n4
  rw [hD1, hD2, hD3, hD4]
  obtain ⟨E1, hE1⟩ : ∃ E, [114, 97, 119, 32] ++ D1 = E := ⟨_, rfl⟩
  have lE1 : E1.length ≤ 24 := by rw [← hE1]; simp only [List.length_append, List.length_cons, List.length_nil]; omega
  have aE1 : ∀ W, (Op.stringOp .add ⟨#[114, 97, 119, 32]⟩ (bs D1)).run Tryd.prog W = .ok (.string (bs E1)) W := fun W => add_two [114, 97, 119, 32] D1 _ (by first | omega | (simp only [List.length_append, List.length_cons, List.length_nil]; omega)) hE1 W
  obtain ⟨E2, hE2⟩ : ∃ E, E1 ++ [32] = E := ⟨_, rfl⟩
  have lE2 : E2.length ≤ 25 := by rw [← hE2]; simp only [List.length_append, List.length_cons, List.length_nil]; omega
  have aE2 : ∀ W, (Op.stringOp .add (bs E1) ⟨#[32]⟩).run Tryd.prog W = .ok (.string (bs E2)) W := fun W => add_two E1 [32] _ (by first | omega | (simp only [List.length_append, List.length_cons, List.length_nil]; omega)) hE2 W
  obtain ⟨E3, hE3⟩ : ∃ E, E2 ++ D2 = E := ⟨_, rfl⟩
  have lE3 : E3.length ≤ 45 := by rw [← hE3]; simp only [List.length_append, List.length_cons, List.length_nil]; omega
  have aE3 : ∀ W, (Op.stringOp .add (bs E2) (bs D2)).run Tryd.prog W = .ok (.string (bs E3)) W := fun W => add_two E2 D2 _ (by first | omega | (simp only [List.length_append, List.length_cons, List.length_nil]; omega)) hE3 W
  obtain ⟨E4, hE4⟩ : ∃ E, E3 ++ [32] = E := ⟨_, rfl⟩
  have lE4 : E4.length ≤ 46 := by rw [← hE4]; simp only [List.length_append, List.length_cons, List.length_nil]; omega
  have aE4 : ∀ W, (Op.stringOp .add (bs E3) ⟨#[32]⟩).run Tryd.prog W = .ok (.string (bs E4)) W := fun W => add_two E3 [32] _ (by first | omega | (simp only [List.length_append, List.length_cons, List.length_nil]; omega)) hE4 W
  obtain ⟨E5, hE5⟩ : ∃ E, E4 ++ D3 = E := ⟨_, rfl⟩
  have lE5 : E5.length ≤ 66 := by rw [← hE5]; simp only [List.length_append, List.length_cons, List.length_nil]; omega
  have aE5 : ∀ W, (Op.stringOp .add (bs E4) (bs D3)).run Tryd.prog W = .ok (.string (bs E5)) W := fun W => add_two E4 D3 _ (by first | omega | (simp only [List.length_append, List.length_cons, List.length_nil]; omega)) hE5 W
  obtain ⟨E6, hE6⟩ : ∃ E, E5 ++ [32] = E := ⟨_, rfl⟩
  have lE6 : E6.length ≤ 67 := by rw [← hE6]; simp only [List.length_append, List.length_cons, List.length_nil]; omega
  have aE6 : ∀ W, (Op.stringOp .add (bs E5) ⟨#[32]⟩).run Tryd.prog W = .ok (.string (bs E6)) W := fun W => add_two E5 [32] _ (by first | omega | (simp only [List.length_append, List.length_cons, List.length_nil]; omega)) hE6 W
  obtain ⟨E7, hE7⟩ : ∃ E, E6 ++ D4 = E := ⟨_, rfl⟩
  have lE7 : E7.length ≤ 87 := by rw [← hE7]; simp only [List.length_append, List.length_cons, List.length_nil]; omega
  have aE7 : ∀ W, (Op.stringOp .add (bs E6) (bs D4)).run Tryd.prog W = .ok (.string (bs E7)) W := fun W => add_two E6 D4 _ (by first | omega | (simp only [List.length_append, List.length_cons, List.length_nil]; omega)) hE7 W
  rw [hE1, hE2, hE3, hE4, hE5, hE6, hE7]
  clear hE1 hE2 hE3 hE4 hE5 hE6 hE7 lE1 lE2 lE3 lE4 lE5 lE6 lE7 lD1 lD2 lD3 lD4 hD1 hD2 hD3 hD4 hc hjt hjf hk hkb huk huj
  go_enter Tryd.func10, Tryd.ntmps10
  go_wp2_with fail
  refine (HU.out _).mono ?_
  rintro e w2 ⟨⟨z, rfl⟩, rfl⟩
  go_wp2_with fail
  refine (HKN.out _).mono ?_
  rintro e w2 ⟨rfl, rfl⟩
  go_upto_region 3 with fail
  go_region_held3 (fun w' => w'.cell? ⟨w.heap.size, 0, none⟩ = some (.int .u16 c) ∧ w'.cell? ⟨w.heap.size, 1, none⟩ = some (.int .u8 jt) ∧ w'.cell? ⟨w.heap.size, 2, none⟩ = some (.int .u8 jf) ∧ w'.cell? ⟨w.heap.size, 3, none⟩ = some (.int .u32 k) ∧ Below w.heap.size w w')
    (first | exact ⟨by simp [go_sem], by simp [go_sem], by simp [go_sem], by simp [go_sem], HB0.out.drew⟩ | exact ⟨by simp [go_sem], by simp [go_sem], by simp [go_sem], by simp [go_sem], HB0.out⟩ | exact keepL (by assumption) (by assumption) | assumption)
    (first
      | (go_at_call 28; with_reducible refine (N1.out _).mono ?_; rintro e11 w11 ⟨rfl, hB11⟩)
      | (go_at_call 28; with_reducible refine (N2.out _).mono ?_; rintro e12 w12 ⟨rfl, hB12⟩)
      | (go_at_call 28; with_reducible refine (N3.out _).mono ?_; rintro e13 w13 ⟨rfl, hB13⟩)
      | (go_at_call 28; with_reducible refine (N4.out _).mono ?_; rintro e14 w14 ⟨rfl, hB14⟩))
  rename_i hH
  have HH := Lib.hid (lastL hH)
  clear hH
  go_wp2_with fail
  go_ret
  exact ⟨rfl, HH.out⟩
set_option maxRecDepth 100000 in
set_option maxHeartbeats 3200000 in
theorem rline_C2 (c jt jf k : Nat) (w : World) (hc : c ≤ 65535) (hjt : jt ≤ 255) (hjf : jf ≤ 255) (hk : k ≤ 4294967295) (hkb : knownB c = true) (huk : ukB c = false) (huj : rjL.contains c = false) (h1 : ((k : Int) == 0) = true) (h2 : ((k : Int) != 0) = false) (h3 : ((jt : Int) == 0) = false) (h4 : ((jt : Int) != 0) = true) :
    Calls Tryd.prog 10 #[.agg #[.int .u16 c, .int .u8 jt, .int .u8 jf, .int .u32 k]] w fun e w' => e = .returned (.string (bs ([114, 97, 119, 32] ++ dcl c ++ [32] ++ dcl jt ++ [32] ++ dcl jf ++ [32] ++ dcl k))) ∧ Below w.heap.size w w' := by
  have i0 : (0 : Int) ≤ (c : Int) := by omega
  have i1 : (c : Int) ≤ 65535 := by omega
  have i2 : (0 : Int) ≤ (jt : Int) := by omega
  have i3 : (jt : Int) ≤ 255 := by omega
  have i4 : (0 : Int) ≤ (jf : Int) := by omega
  have i5 : (jf : Int) ≤ 255 := by omega
  have wc : IntKind.u32.wrap (c : Int) = c := IntWalk.u32_in _ (by omega)
  have wt : IntKind.u32.wrap (jt : Int) = jt := IntWalk.u32_in _ (by omega)
  have wf : IntKind.u32.wrap (jf : Int) = jf := IntWalk.u32_in _ (by omega)
  have HB0 := Lib.hid ((Below.refl w.heap.size w).alloc (Nat.le_refl _) (objN ⟨c, jt, jf, k⟩))
  have hu : ∀ W, Calls Tryd.prog 26 #[.int .u16 c] W fun e w' => (∃ z, e = .returned (.tuple #[.bool false, .bool false, .bool z])) ∧ W = w' := fun W => by
    have h := uses_any c W
    rw [show (knownB c && ukB c) = false from by rw [hkb, huk]; rfl, show (knownB c && rjL.contains c) = false from by rw [hkb, huj]; rfl] at h
    exact h
  have HU := Lib.hid hu
  have hkn : ∀ W, Calls Tryd.prog 27 #[.int .u16 c] W fun e w' => e = .returned (.bool true) ∧ W = w' := fun W => by
    have h := rknown_any c W
    rw [hkb] at h
    exact h
  have HKN := Lib.hid hkn
  clear hu hkn
  obtain ⟨D1, hD1⟩ : ∃ D, dcl c = D := ⟨_, rfl⟩
  have lD1 : D1.length ≤ 20 := by rw [← hD1]; exact dcl_len _
  have n1 : ∀ W, Calls Tryd.prog 28 #[.int .u32 c] W fun e w' => e = .returned (.string (bs D1)) ∧ Below W.heap.size W w' := fun W => by
    have h := num_any c W (by omega)
    rw [hD1] at h
    exact h
  have N1 := Lib.hid n1
  clear n1
  obtain ⟨D2, hD2⟩ : ∃ D, dcl jt = D := ⟨_, rfl⟩
  have lD2 : D2.length ≤ 20 := by rw [← hD2]; exact dcl_len _
  have n2 : ∀ W, Calls Tryd.prog 28 #[.int .u32 jt] W fun e w' => e = .returned (.string (bs D2)) ∧ Below W.heap.size W w' := fun W => by
    have h := num_any jt W (by omega)
    rw [hD2] at h
    exact h
  have N2 := Lib.hid n2
  clear n2
  obtain ⟨D3, hD3⟩ : ∃ D, dcl jf = D := ⟨_, rfl⟩
  have lD3 : D3.length ≤ 20 := by rw [← hD3]; exact dcl_len _
  have n3 : ∀ W, Calls Tryd.prog 28 #[.int .u32 jf] W fun e w' => e = .returned (.string (bs D3)) ∧ Below W.heap.size W w' := fun W => by
    have h := num_any jf W (by omega)
    rw [hD3] at h
    exact h
  have N3 := Lib.hid n3
  clear n3
  obtain ⟨D4, hD4⟩ : ∃ D, dcl k = D := ⟨_, rfl⟩
  have lD4 : D4.length ≤ 20 := by rw [← hD4]; exact dcl_len _
  have n4 : ∀ W, Calls Tryd.prog 28 #[.int .u32 k] W fun e w' => e = .returned (.string (bs D4)) ∧ Below W.heap.size W w' := fun W => by
    have h := num_any k W (by omega)
    rw [hD4] at h
    exact h
  have N4 := Lib.hid n4
  clear n4
  rw [hD1, hD2, hD3, hD4]
  obtain ⟨E1, hE1⟩ : ∃ E, [114, 97, 119, 32] ++ D1 = E := ⟨_, rfl⟩
  have lE1 : E1.length ≤ 24 := by rw [← hE1]; simp only [List.length_append, List.length_cons, List.length_nil]; omega
  have aE1 : ∀ W, (Op.stringOp .add ⟨#[114, 97, 119, 32]⟩ (bs D1)).run Tryd.prog W = .ok (.string (bs E1)) W := fun W => add_two [114, 97, 119, 32] D1 _ (by first | omega | (simp only [List.length_append, List.length_cons, List.length_nil]; omega)) hE1 W
  obtain ⟨E2, hE2⟩ : ∃ E, E1 ++ [32] = E := ⟨_, rfl⟩
  have lE2 : E2.length ≤ 25 := by rw [← hE2]; simp only [List.length_append, List.length_cons, List.length_nil]; omega
  have aE2 : ∀ W, (Op.stringOp .add (bs E1) ⟨#[32]⟩).run Tryd.prog W = .ok (.string (bs E2)) W := fun W => add_two E1 [32] _ (by first | omega | (simp only [List.length_append, List.length_cons, List.length_nil]; omega)) hE2 W
  obtain ⟨E3, hE3⟩ : ∃ E, E2 ++ D2 = E := ⟨_, rfl⟩
  have lE3 : E3.length ≤ 45 := by rw [← hE3]; simp only [List.length_append, List.length_cons, List.length_nil]; omega
  have aE3 : ∀ W, (Op.stringOp .add (bs E2) (bs D2)).run Tryd.prog W = .ok (.string (bs E3)) W := fun W => add_two E2 D2 _ (by first | omega | (simp only [List.length_append, List.length_cons, List.length_nil]; omega)) hE3 W
  obtain ⟨E4, hE4⟩ : ∃ E, E3 ++ [32] = E := ⟨_, rfl⟩
  have lE4 : E4.length ≤ 46 := by rw [← hE4]; simp only [List.length_append, List.length_cons, List.length_nil]; omega
  have aE4 : ∀ W, (Op.stringOp .add (bs E3) ⟨#[32]⟩).run Tryd.prog W = .ok (.string (bs E4)) W := fun W => add_two E3 [32] _ (by first | omega | (simp only [List.length_append, List.length_cons, List.length_nil]; omega)) hE4 W
  obtain ⟨E5, hE5⟩ : ∃ E, E4 ++ D3 = E := ⟨_, rfl⟩
  have lE5 : E5.length ≤ 66 := by rw [← hE5]; simp only [List.length_append, List.length_cons, List.length_nil]; omega
  have aE5 : ∀ W, (Op.stringOp .add (bs E4) (bs D3)).run Tryd.prog W = .ok (.string (bs E5)) W := fun W => add_two E4 D3 _ (by first | omega | (simp only [List.length_append, List.length_cons, List.length_nil]; omega)) hE5 W
  obtain ⟨E6, hE6⟩ : ∃ E, E5 ++ [32] = E := ⟨_, rfl⟩
  have lE6 : E6.length ≤ 67 := by rw [← hE6]; simp only [List.length_append, List.length_cons, List.length_nil]; omega
  have aE6 : ∀ W, (Op.stringOp .add (bs E5) ⟨#[32]⟩).run Tryd.prog W = .ok (.string (bs E6)) W := fun W => add_two E5 [32] _ (by first | omega | (simp only [List.length_append, List.length_cons, List.length_nil]; omega)) hE6 W
  obtain ⟨E7, hE7⟩ : ∃ E, E6 ++ D4 = E := ⟨_, rfl⟩
  have lE7 : E7.length ≤ 87 := by rw [← hE7]; simp only [List.length_append, List.length_cons, List.length_nil]; omega
  have aE7 : ∀ W, (Op.stringOp .add (bs E6) (bs D4)).run Tryd.prog W = .ok (.string (bs E7)) W := fun W => add_two E6 D4 _ (by first | omega | (simp only [List.length_append, List.length_cons, List.length_nil]; omega)) hE7 W
  rw [hE1, hE2, hE3, hE4, hE5, hE6, hE7]
  clear hE1 hE2 hE3 hE4 hE5 hE6 hE7 lE1 lE2 lE3 lE4 lE5 lE6 lE7 lD1 lD2 lD3 lD4 hD1 hD2 hD3 hD4 hc hjt hjf hk hkb huk huj
  go_enter Tryd.func10, Tryd.ntmps10
  go_wp2_with fail
  refine (HU.out _).mono ?_
  rintro e w2 ⟨⟨z, rfl⟩, rfl⟩
  go_wp2_with fail
  refine (HKN.out _).mono ?_
  rintro e w2 ⟨rfl, rfl⟩
  go_upto_region 3 with fail
  go_region_held3 (fun w' => w'.cell? ⟨w.heap.size, 0, none⟩ = some (.int .u16 c) ∧ w'.cell? ⟨w.heap.size, 1, none⟩ = some (.int .u8 jt) ∧ w'.cell? ⟨w.heap.size, 2, none⟩ = some (.int .u8 jf) ∧ w'.cell? ⟨w.heap.size, 3, none⟩ = some (.int .u32 k) ∧ Below w.heap.size w w')
    (first | exact ⟨by simp [go_sem], by simp [go_sem], by simp [go_sem], by simp [go_sem], HB0.out.drew⟩ | exact ⟨by simp [go_sem], by simp [go_sem], by simp [go_sem], by simp [go_sem], HB0.out⟩ | exact keepL (by assumption) (by assumption) | assumption)
    (first
      | (go_at_call 28; with_reducible refine (N1.out _).mono ?_; rintro e11 w11 ⟨rfl, hB11⟩)
      | (go_at_call 28; with_reducible refine (N2.out _).mono ?_; rintro e12 w12 ⟨rfl, hB12⟩)
      | (go_at_call 28; with_reducible refine (N3.out _).mono ?_; rintro e13 w13 ⟨rfl, hB13⟩)
      | (go_at_call 28; with_reducible refine (N4.out _).mono ?_; rintro e14 w14 ⟨rfl, hB14⟩))
  rename_i hH
  have HH := Lib.hid (lastL hH)
  clear hH
  go_wp2_with fail
  go_ret
  exact ⟨rfl, HH.out⟩
set_option maxRecDepth 100000 in
set_option maxHeartbeats 3200000 in
theorem rline_D1 (c jt jf k : Nat) (w : World) (hc : c ≤ 65535) (hjt : jt ≤ 255) (hjf : jf ≤ 255) (hk : k ≤ 4294967295) (hkb : knownB c = true) (huk : ukB c = true) (huj : rjL.contains c = false) (h3 : ((jt : Int) == 0) = true) (h4 : ((jt : Int) != 0) = false) (h5 : ((jf : Int) == 0) = false) (h6 : ((jf : Int) != 0) = true) :
    Calls Tryd.prog 10 #[.agg #[.int .u16 c, .int .u8 jt, .int .u8 jf, .int .u32 k]] w fun e w' => e = .returned (.string (bs ([114, 97, 119, 32] ++ dcl c ++ [32] ++ dcl jt ++ [32] ++ dcl jf ++ [32] ++ dcl k))) ∧ Below w.heap.size w w' := by
  have i0 : (0 : Int) ≤ (c : Int) := by omega
  have i1 : (c : Int) ≤ 65535 := by omega
  have i2 : (0 : Int) ≤ (jt : Int) := by omega
  have i3 : (jt : Int) ≤ 255 := by omega
  have i4 : (0 : Int) ≤ (jf : Int) := by omega
  have i5 : (jf : Int) ≤ 255 := by omega
  have wc : IntKind.u32.wrap (c : Int) = c := IntWalk.u32_in _ (by omega)
  have wt : IntKind.u32.wrap (jt : Int) = jt := IntWalk.u32_in _ (by omega)
  have wf : IntKind.u32.wrap (jf : Int) = jf := IntWalk.u32_in _ (by omega)
  have HB0 := Lib.hid ((Below.refl w.heap.size w).alloc (Nat.le_refl _) (objN ⟨c, jt, jf, k⟩))
  have hu : ∀ W, Calls Tryd.prog 26 #[.int .u16 c] W fun e w' => (∃ z, e = .returned (.tuple #[.bool true, .bool false, .bool z])) ∧ W = w' := fun W => by
    have h := uses_any c W
    rw [show (knownB c && ukB c) = true from by rw [hkb, huk]; rfl, show (knownB c && rjL.contains c) = false from by rw [hkb, huj]; rfl] at h
    exact h
  have HU := Lib.hid hu
  have hkn : ∀ W, Calls Tryd.prog 27 #[.int .u16 c] W fun e w' => e = .returned (.bool true) ∧ W = w' := fun W => by
    have h := rknown_any c W
    rw [hkb] at h
    exact h
  have HKN := Lib.hid hkn
  clear hu hkn
  obtain ⟨D1, hD1⟩ : ∃ D, dcl c = D := ⟨_, rfl⟩
  have lD1 : D1.length ≤ 20 := by rw [← hD1]; exact dcl_len _
  have n1 : ∀ W, Calls Tryd.prog 28 #[.int .u32 c] W fun e w' => e = .returned (.string (bs D1)) ∧ Below W.heap.size W w' := fun W => by
    have h := num_any c W (by omega)
    rw [hD1] at h
    exact h
  have N1 := Lib.hid n1
  clear n1
  obtain ⟨D2, hD2⟩ : ∃ D, dcl jt = D := ⟨_, rfl⟩
  have lD2 : D2.length ≤ 20 := by rw [← hD2]; exact dcl_len _
  have n2 : ∀ W, Calls Tryd.prog 28 #[.int .u32 jt] W fun e w' => e = .returned (.string (bs D2)) ∧ Below W.heap.size W w' := fun W => by
    have h := num_any jt W (by omega)
    rw [hD2] at h
    exact h
  have N2 := Lib.hid n2
  clear n2
  obtain ⟨D3, hD3⟩ : ∃ D, dcl jf = D := ⟨_, rfl⟩
  have lD3 : D3.length ≤ 20 := by rw [← hD3]; exact dcl_len _
  have n3 : ∀ W, Calls Tryd.prog 28 #[.int .u32 jf] W fun e w' => e = .returned (.string (bs D3)) ∧ Below W.heap.size W w' := fun W => by
    have h := num_any jf W (by omega)
    rw [hD3] at h
    exact h
  have N3 := Lib.hid n3
  clear n3
  obtain ⟨D4, hD4⟩ : ∃ D, dcl k = D := ⟨_, rfl⟩
  have lD4 : D4.length ≤ 20 := by rw [← hD4]; exact dcl_len _
  have n4 : ∀ W, Calls Tryd.prog 28 #[.int .u32 k] W fun e w' => e = .returned (.string (bs D4)) ∧ Below W.heap.size W w' := fun W => by
    have h := num_any k W (by omega)
    rw [hD4] at h
    exact h
  have N4 := Lib.hid n4
  clear n4
  rw [hD1, hD2, hD3, hD4]
  obtain ⟨E1, hE1⟩ : ∃ E, [114, 97, 119, 32] ++ D1 = E := ⟨_, rfl⟩
  have lE1 : E1.length ≤ 24 := by rw [← hE1]; simp only [List.length_append, List.length_cons, List.length_nil]; omega
  have aE1 : ∀ W, (Op.stringOp .add ⟨#[114, 97, 119, 32]⟩ (bs D1)).run Tryd.prog W = .ok (.string (bs E1)) W := fun W => add_two [114, 97, 119, 32] D1 _ (by first | omega | (simp only [List.length_append, List.length_cons, List.length_nil]; omega)) hE1 W
  obtain ⟨E2, hE2⟩ : ∃ E, E1 ++ [32] = E := ⟨_, rfl⟩
  have lE2 : E2.length ≤ 25 := by rw [← hE2]; simp only [List.length_append, List.length_cons, List.length_nil]; omega
  have aE2 : ∀ W, (Op.stringOp .add (bs E1) ⟨#[32]⟩).run Tryd.prog W = .ok (.string (bs E2)) W := fun W => add_two E1 [32] _ (by first | omega | (simp only [List.length_append, List.length_cons, List.length_nil]; omega)) hE2 W
  obtain ⟨E3, hE3⟩ : ∃ E, E2 ++ D2 = E := ⟨_, rfl⟩
  have lE3 : E3.length ≤ 45 := by rw [← hE3]; simp only [List.length_append, List.length_cons, List.length_nil]; omega
  have aE3 : ∀ W, (Op.stringOp .add (bs E2) (bs D2)).run Tryd.prog W = .ok (.string (bs E3)) W := fun W => add_two E2 D2 _ (by first | omega | (simp only [List.length_append, List.length_cons, List.length_nil]; omega)) hE3 W
  obtain ⟨E4, hE4⟩ : ∃ E, E3 ++ [32] = E := ⟨_, rfl⟩
  have lE4 : E4.length ≤ 46 := by rw [← hE4]; simp only [List.length_append, List.length_cons, List.length_nil]; omega
  have aE4 : ∀ W, (Op.stringOp .add (bs E3) ⟨#[32]⟩).run Tryd.prog W = .ok (.string (bs E4)) W := fun W => add_two E3 [32] _ (by first | omega | (simp only [List.length_append, List.length_cons, List.length_nil]; omega)) hE4 W
  obtain ⟨E5, hE5⟩ : ∃ E, E4 ++ D3 = E := ⟨_, rfl⟩
  have lE5 : E5.length ≤ 66 := by rw [← hE5]; simp only [List.length_append, List.length_cons, List.length_nil]; omega
  have aE5 : ∀ W, (Op.stringOp .add (bs E4) (bs D3)).run Tryd.prog W = .ok (.string (bs E5)) W := fun W => add_two E4 D3 _ (by first | omega | (simp only [List.length_append, List.length_cons, List.length_nil]; omega)) hE5 W
  obtain ⟨E6, hE6⟩ : ∃ E, E5 ++ [32] = E := ⟨_, rfl⟩
  have lE6 : E6.length ≤ 67 := by rw [← hE6]; simp only [List.length_append, List.length_cons, List.length_nil]; omega
  have aE6 : ∀ W, (Op.stringOp .add (bs E5) ⟨#[32]⟩).run Tryd.prog W = .ok (.string (bs E6)) W := fun W => add_two E5 [32] _ (by first | omega | (simp only [List.length_append, List.length_cons, List.length_nil]; omega)) hE6 W
  obtain ⟨E7, hE7⟩ : ∃ E, E6 ++ D4 = E := ⟨_, rfl⟩
  have lE7 : E7.length ≤ 87 := by rw [← hE7]; simp only [List.length_append, List.length_cons, List.length_nil]; omega
  have aE7 : ∀ W, (Op.stringOp .add (bs E6) (bs D4)).run Tryd.prog W = .ok (.string (bs E7)) W := fun W => add_two E6 D4 _ (by first | omega | (simp only [List.length_append, List.length_cons, List.length_nil]; omega)) hE7 W
  rw [hE1, hE2, hE3, hE4, hE5, hE6, hE7]
  clear hE1 hE2 hE3 hE4 hE5 hE6 hE7 lE1 lE2 lE3 lE4 lE5 lE6 lE7 lD1 lD2 lD3 lD4 hD1 hD2 hD3 hD4 hc hjt hjf hk hkb huk huj
  go_enter Tryd.func10, Tryd.ntmps10
  go_wp2_with fail
  refine (HU.out _).mono ?_
  rintro e w2 ⟨⟨z, rfl⟩, rfl⟩
  go_wp2_with fail
  refine (HKN.out _).mono ?_
  rintro e w2 ⟨rfl, rfl⟩
  go_upto_region 3 with fail
  go_region_held3 (fun w' => w'.cell? ⟨w.heap.size, 0, none⟩ = some (.int .u16 c) ∧ w'.cell? ⟨w.heap.size, 1, none⟩ = some (.int .u8 jt) ∧ w'.cell? ⟨w.heap.size, 2, none⟩ = some (.int .u8 jf) ∧ w'.cell? ⟨w.heap.size, 3, none⟩ = some (.int .u32 k) ∧ Below w.heap.size w w')
    (first | exact ⟨by simp [go_sem], by simp [go_sem], by simp [go_sem], by simp [go_sem], HB0.out.drew⟩ | exact ⟨by simp [go_sem], by simp [go_sem], by simp [go_sem], by simp [go_sem], HB0.out⟩ | exact keepL (by assumption) (by assumption) | assumption)
    (first
      | (go_at_call 28; with_reducible refine (N1.out _).mono ?_; rintro e11 w11 ⟨rfl, hB11⟩)
      | (go_at_call 28; with_reducible refine (N2.out _).mono ?_; rintro e12 w12 ⟨rfl, hB12⟩)
      | (go_at_call 28; with_reducible refine (N3.out _).mono ?_; rintro e13 w13 ⟨rfl, hB13⟩)
      | (go_at_call 28; with_reducible refine (N4.out _).mono ?_; rintro e14 w14 ⟨rfl, hB14⟩))
  rename_i hH
  have HH := Lib.hid (lastL hH)
  clear hH
  go_wp2_with fail
  go_ret
  exact ⟨rfl, HH.out⟩
set_option maxRecDepth 100000 in
set_option maxHeartbeats 3200000 in
theorem rline_D2 (c jt jf k : Nat) (w : World) (hc : c ≤ 65535) (hjt : jt ≤ 255) (hjf : jf ≤ 255) (hk : k ≤ 4294967295) (hkb : knownB c = true) (huk : ukB c = false) (huj : rjL.contains c = false) (h1 : ((k : Int) == 0) = true) (h2 : ((k : Int) != 0) = false) (h3 : ((jt : Int) == 0) = true) (h4 : ((jt : Int) != 0) = false) (h5 : ((jf : Int) == 0) = false) (h6 : ((jf : Int) != 0) = true) :
    Calls Tryd.prog 10 #[.agg #[.int .u16 c, .int .u8 jt, .int .u8 jf, .int .u32 k]] w fun e w' => e = .returned (.string (bs ([114, 97, 119, 32] ++ dcl c ++ [32] ++ dcl jt ++ [32] ++ dcl jf ++ [32] ++ dcl k))) ∧ Below w.heap.size w w' := by
  have i0 : (0 : Int) ≤ (c : Int) := by omega
  have i1 : (c : Int) ≤ 65535 := by omega
  have i2 : (0 : Int) ≤ (jt : Int) := by omega
  have i3 : (jt : Int) ≤ 255 := by omega
  have i4 : (0 : Int) ≤ (jf : Int) := by omega
  have i5 : (jf : Int) ≤ 255 := by omega
  have wc : IntKind.u32.wrap (c : Int) = c := IntWalk.u32_in _ (by omega)
  have wt : IntKind.u32.wrap (jt : Int) = jt := IntWalk.u32_in _ (by omega)
  have wf : IntKind.u32.wrap (jf : Int) = jf := IntWalk.u32_in _ (by omega)
  have HB0 := Lib.hid ((Below.refl w.heap.size w).alloc (Nat.le_refl _) (objN ⟨c, jt, jf, k⟩))
  have hu : ∀ W, Calls Tryd.prog 26 #[.int .u16 c] W fun e w' => (∃ z, e = .returned (.tuple #[.bool false, .bool false, .bool z])) ∧ W = w' := fun W => by
    have h := uses_any c W
    rw [show (knownB c && ukB c) = false from by rw [hkb, huk]; rfl, show (knownB c && rjL.contains c) = false from by rw [hkb, huj]; rfl] at h
    exact h
  have HU := Lib.hid hu
  have hkn : ∀ W, Calls Tryd.prog 27 #[.int .u16 c] W fun e w' => e = .returned (.bool true) ∧ W = w' := fun W => by
    have h := rknown_any c W
    rw [hkb] at h
    exact h
  have HKN := Lib.hid hkn
  clear hu hkn
  obtain ⟨D1, hD1⟩ : ∃ D, dcl c = D := ⟨_, rfl⟩
  have lD1 : D1.length ≤ 20 := by rw [← hD1]; exact dcl_len _
  have n1 : ∀ W, Calls Tryd.prog 28 #[.int .u32 c] W fun e w' => e = .returned (.string (bs D1)) ∧ Below W.heap.size W w' := fun W => by
    have h := num_any c W (by omega)
    rw [hD1] at h
    exact h
  have N1 := Lib.hid n1
  clear n1
  obtain ⟨D2, hD2⟩ : ∃ D, dcl jt = D := ⟨_, rfl⟩
  have lD2 : D2.length ≤ 20 := by rw [← hD2]; exact dcl_len _
  have n2 : ∀ W, Calls Tryd.prog 28 #[.int .u32 jt] W fun e w' => e = .returned (.string (bs D2)) ∧ Below W.heap.size W w' := fun W => by
    have h := num_any jt W (by omega)
    rw [hD2] at h
    exact h
  have N2 := Lib.hid n2
  clear n2
  obtain ⟨D3, hD3⟩ : ∃ D, dcl jf = D := ⟨_, rfl⟩
  have lD3 : D3.length ≤ 20 := by rw [← hD3]; exact dcl_len _
  have n3 : ∀ W, Calls Tryd.prog 28 #[.int .u32 jf] W fun e w' => e = .returned (.string (bs D3)) ∧ Below W.heap.size W w' := fun W => by
    have h := num_any jf W (by omega)
    rw [hD3] at h
    exact h
  have N3 := Lib.hid n3
  clear n3
  obtain ⟨D4, hD4⟩ : ∃ D, dcl k = D := ⟨_, rfl⟩
  have lD4 : D4.length ≤ 20 := by rw [← hD4]; exact dcl_len _
  have n4 : ∀ W, Calls Tryd.prog 28 #[.int .u32 k] W fun e w' => e = .returned (.string (bs D4)) ∧ Below W.heap.size W w' := fun W => by
    have h := num_any k W (by omega)
    rw [hD4] at h
    exact h
  have N4 := Lib.hid n4
  clear n4
  rw [hD1, hD2, hD3, hD4]
  obtain ⟨E1, hE1⟩ : ∃ E, [114, 97, 119, 32] ++ D1 = E := ⟨_, rfl⟩
  have lE1 : E1.length ≤ 24 := by rw [← hE1]; simp only [List.length_append, List.length_cons, List.length_nil]; omega
  have aE1 : ∀ W, (Op.stringOp .add ⟨#[114, 97, 119, 32]⟩ (bs D1)).run Tryd.prog W = .ok (.string (bs E1)) W := fun W => add_two [114, 97, 119, 32] D1 _ (by first | omega | (simp only [List.length_append, List.length_cons, List.length_nil]; omega)) hE1 W
  obtain ⟨E2, hE2⟩ : ∃ E, E1 ++ [32] = E := ⟨_, rfl⟩
  have lE2 : E2.length ≤ 25 := by rw [← hE2]; simp only [List.length_append, List.length_cons, List.length_nil]; omega
  have aE2 : ∀ W, (Op.stringOp .add (bs E1) ⟨#[32]⟩).run Tryd.prog W = .ok (.string (bs E2)) W := fun W => add_two E1 [32] _ (by first | omega | (simp only [List.length_append, List.length_cons, List.length_nil]; omega)) hE2 W
  obtain ⟨E3, hE3⟩ : ∃ E, E2 ++ D2 = E := ⟨_, rfl⟩
  have lE3 : E3.length ≤ 45 := by rw [← hE3]; simp only [List.length_append, List.length_cons, List.length_nil]; omega
  have aE3 : ∀ W, (Op.stringOp .add (bs E2) (bs D2)).run Tryd.prog W = .ok (.string (bs E3)) W := fun W => add_two E2 D2 _ (by first | omega | (simp only [List.length_append, List.length_cons, List.length_nil]; omega)) hE3 W
  obtain ⟨E4, hE4⟩ : ∃ E, E3 ++ [32] = E := ⟨_, rfl⟩
  have lE4 : E4.length ≤ 46 := by rw [← hE4]; simp only [List.length_append, List.length_cons, List.length_nil]; omega
  have aE4 : ∀ W, (Op.stringOp .add (bs E3) ⟨#[32]⟩).run Tryd.prog W = .ok (.string (bs E4)) W := fun W => add_two E3 [32] _ (by first | omega | (simp only [List.length_append, List.length_cons, List.length_nil]; omega)) hE4 W
  obtain ⟨E5, hE5⟩ : ∃ E, E4 ++ D3 = E := ⟨_, rfl⟩
  have lE5 : E5.length ≤ 66 := by rw [← hE5]; simp only [List.length_append, List.length_cons, List.length_nil]; omega
  have aE5 : ∀ W, (Op.stringOp .add (bs E4) (bs D3)).run Tryd.prog W = .ok (.string (bs E5)) W := fun W => add_two E4 D3 _ (by first | omega | (simp only [List.length_append, List.length_cons, List.length_nil]; omega)) hE5 W
  obtain ⟨E6, hE6⟩ : ∃ E, E5 ++ [32] = E := ⟨_, rfl⟩
  have lE6 : E6.length ≤ 67 := by rw [← hE6]; simp only [List.length_append, List.length_cons, List.length_nil]; omega
  have aE6 : ∀ W, (Op.stringOp .add (bs E5) ⟨#[32]⟩).run Tryd.prog W = .ok (.string (bs E6)) W := fun W => add_two E5 [32] _ (by first | omega | (simp only [List.length_append, List.length_cons, List.length_nil]; omega)) hE6 W
  obtain ⟨E7, hE7⟩ : ∃ E, E6 ++ D4 = E := ⟨_, rfl⟩
  have lE7 : E7.length ≤ 87 := by rw [← hE7]; simp only [List.length_append, List.length_cons, List.length_nil]; omega
  have aE7 : ∀ W, (Op.stringOp .add (bs E6) (bs D4)).run Tryd.prog W = .ok (.string (bs E7)) W := fun W => add_two E6 D4 _ (by first | omega | (simp only [List.length_append, List.length_cons, List.length_nil]; omega)) hE7 W
  rw [hE1, hE2, hE3, hE4, hE5, hE6, hE7]
  clear hE1 hE2 hE3 hE4 hE5 hE6 hE7 lE1 lE2 lE3 lE4 lE5 lE6 lE7 lD1 lD2 lD3 lD4 hD1 hD2 hD3 hD4 hc hjt hjf hk hkb huk huj
  go_enter Tryd.func10, Tryd.ntmps10
  go_wp2_with fail
  refine (HU.out _).mono ?_
  rintro e w2 ⟨⟨z, rfl⟩, rfl⟩
  go_wp2_with fail
  refine (HKN.out _).mono ?_
  rintro e w2 ⟨rfl, rfl⟩
  go_upto_region 3 with fail
  go_region_held3 (fun w' => w'.cell? ⟨w.heap.size, 0, none⟩ = some (.int .u16 c) ∧ w'.cell? ⟨w.heap.size, 1, none⟩ = some (.int .u8 jt) ∧ w'.cell? ⟨w.heap.size, 2, none⟩ = some (.int .u8 jf) ∧ w'.cell? ⟨w.heap.size, 3, none⟩ = some (.int .u32 k) ∧ Below w.heap.size w w')
    (first | exact ⟨by simp [go_sem], by simp [go_sem], by simp [go_sem], by simp [go_sem], HB0.out.drew⟩ | exact ⟨by simp [go_sem], by simp [go_sem], by simp [go_sem], by simp [go_sem], HB0.out⟩ | exact keepL (by assumption) (by assumption) | assumption)
    (first
      | (go_at_call 28; with_reducible refine (N1.out _).mono ?_; rintro e11 w11 ⟨rfl, hB11⟩)
      | (go_at_call 28; with_reducible refine (N2.out _).mono ?_; rintro e12 w12 ⟨rfl, hB12⟩)
      | (go_at_call 28; with_reducible refine (N3.out _).mono ?_; rintro e13 w13 ⟨rfl, hB13⟩)
      | (go_at_call 28; with_reducible refine (N4.out _).mono ?_; rintro e14 w14 ⟨rfl, hB14⟩))
  rename_i hH
  have HH := Lib.hid (lastL hH)
  clear hH
  go_wp2_with fail
  go_ret
  exact ⟨rfl, HH.out⟩
end Go.Proofs.YtckbcmoanadckaaDoor
