/- Line: an instruction's text. -/
import Derived.Test.YtckbcmoanadckaaDoorFill
namespace Go.Proofs.YtckbcmoanadckaaDoor
open Go.RowKit Go.Shelf
set_option linter.unusedVariables false
set_option linter.unusedSimpArgs false

theorem keepL {W V V' : World} {b : Nat} {c j f k : Value} (h : V.cell? ⟨b, 0, none⟩ = some c ∧ V.cell? ⟨b, 1, none⟩ = some j ∧ V.cell? ⟨b, 2, none⟩ = some f ∧ V.cell? ⟨b, 3, none⟩ = some k ∧ Below W.heap.size W V) (hb : Below V.heap.size V V') :
    V'.cell? ⟨b, 0, none⟩ = some c ∧ V'.cell? ⟨b, 1, none⟩ = some j ∧ V'.cell? ⟨b, 2, none⟩ = some f ∧ V'.cell? ⟨b, 3, none⟩ = some k ∧ Below W.heap.size W V' := by
  have hlt : b < V.heap.size := World.block_lt_of_cell? V _ h.1
  exact ⟨(hb.cell (p := ⟨b, 0, none⟩) hlt).trans h.1, (hb.cell (p := ⟨b, 1, none⟩) hlt).trans h.2.1, (hb.cell (p := ⟨b, 2, none⟩) hlt).trans h.2.2.1, (hb.cell (p := ⟨b, 3, none⟩) hlt).trans h.2.2.2.1, h.2.2.2.2.trans (hb.mono h.2.2.2.2.size)⟩
theorem lastL {a b c d e : Prop} (H : a ∧ b ∧ c ∧ d ∧ e) : e := H.2.2.2.2
theorem formL_len (c : Nat) : (formL c).length ≤ 100 := by
  unfold formL
  split
  all_goals decide
theorem formOf_len (i : Ins) : (formOf i).length ≤ 100 := by
  unfold formOf
  split
  · exact formL_len _
  · decide
set_option maxRecDepth 100000 in
set_option maxHeartbeats 3200000 in
theorem line_any (i : Ins) (w : World) (hi : InsOk i) (ht : Tab10 w) : Calls Tryd.prog 9 #[aggN i] w fun e w' => e = .returned (.string (bs (lineL i))) ∧ Below w.heap.size w w' := by
  have HI := Lib.hid hi
  have Ht := Lib.hid ht
  obtain ⟨F, hF⟩ : ∃ F, formOf i = F := ⟨_, rfl⟩
  have hFl : F.length ≤ 100 := by rw [← hF]; exact formOf_len i
  unfold lineL
  rw [hF]
  have HF := Lib.hid hF
  have HFl := Lib.hid hFl
  have hB0 : Below w.heap.size w (w.alloc (objN i)) := (Below.refl _ w).alloc (Nat.le_refl _) _
  have HB0 := Lib.hid hB0
  have ck := known_any i.code (w.alloc (objN i)).drew
  obtain ⟨kb, hkb⟩ : ∃ x, knownB i.code = x := ⟨_, rfl⟩
  rw [hkb] at ck
  have Hkb := Lib.hid hkb
  have Ck := Lib.hid ck
  clear hi ht hF hFl hB0 ck hkb
  obtain ⟨c, jt, jf, k⟩ := i
  cases kb with
  | false =>
    have hraw : F = rawL := by
      rw [← HF.out]
      unfold formOf
      rw [Hkb.out]
      rfl
    subst hraw
    have hc : Hid (∀ W, Calls Tryd.prog 22 #[.int .u16 c] W fun e w' => e = .returned (.bool false) ∧ w' = W) := Lib.hid fun W => (known_any c W).mono fun e w' h => ⟨by rw [h.1, Hkb.out], h.2.symm⟩
    go_enter Tryd.func9, Tryd.ntmps9
    go_wp2_with fail
    go_quiet ((go_at_call 22; exact Calls.quiet_of_same (hc.out _)))
    have cf := fill_any rawL ⟨c, jt, jf, k⟩ ((w.alloc (objN ⟨c, jt, jf, k⟩)).drewN nq) (by decide) HI.out ((Ht.out.later HB0.out).later (belowN (Below.refl _ _) _))
    have Cf := Lib.hid cf
    clear cf
    go_wp2_with fail
    refine Cf.out.mono ?_
    rintro e w2 ⟨rfl, hB⟩
    have HBf := Lib.hid ((belowN HB0.out _).trans (hB.mono (by simp)))
    clear hB
    go_wp2_with fail
    go_ret
    exact ⟨rfl, HBf.out⟩
  | true =>
    have hc : Hid (∀ W, Calls Tryd.prog 22 #[.int .u16 c] W fun e w' => e = .returned (.bool true) ∧ W = w') := Lib.hid fun W => (known_any c W).mono fun e w' h => ⟨by rw [h.1, Hkb.out], h.2⟩
    have hfm : Hid (∀ W, Calls Tryd.prog 24 #[.int .u16 c] W fun e w' => e = .returned (.string (bs (formL c))) ∧ Below W.heap.size W w') := Lib.hid fun W => form_any c W Hkb.out
    obtain ⟨sh, hsh⟩ : ∃ x, shownB (formL c) ⟨c, jt, jf, k⟩ = x := ⟨_, rfl⟩
    have hs : Hid (∀ W, Calls Tryd.prog 23 #[.string (bs (formL c)), .agg #[.int .u16 c, .int .u8 jt, .int .u8 jf, .int .u32 k]] W fun e w' => e = .returned (.bool sh) ∧ Below W.heap.size W w') := Lib.hid fun W => (shown_any (formL c) ⟨c, jt, jf, k⟩ W).mono fun e w' h => ⟨by rw [h.1, hsh], h.2⟩
    have hFs : F = if sh then formL c else rawL := by
      rw [← HF.out]
      unfold formOf
      rw [Hkb.out]
      show (if (true && shownB (formL c) ⟨c, jt, jf, k⟩) = true then formL c else rawL) = _
      rw [hsh, Bool.true_and]
    have HFs := Lib.hid hFs
    clear hFs hsh
    go_enter Tryd.func9, Tryd.ntmps9
    go_upto_region 2 with fail
    go_region_held3 (fun w' => w'.cell? ⟨w.heap.size, 0, none⟩ = some (.int .u16 c) ∧ w'.cell? ⟨w.heap.size, 1, none⟩ = some (.int .u8 jt) ∧ w'.cell? ⟨w.heap.size, 2, none⟩ = some (.int .u8 jf) ∧ w'.cell? ⟨w.heap.size, 3, none⟩ = some (.int .u32 k) ∧ Below w.heap.size w w')
      (first | exact ⟨by simp [go_sem], by simp [go_sem], by simp [go_sem], by simp [go_sem], HB0.out.drew⟩ | exact ⟨by simp [go_sem], by simp [go_sem], by simp [go_sem], by simp [go_sem], HB0.out⟩ | exact keepL (by assumption) (by assumption) | assumption)
      (first
        | (go_at_call 22; refine (hc.out _).mono ?_; rintro e1 w1 ⟨rfl, rfl⟩)
        | (go_at_call 24; refine (hfm.out _).mono ?_; rintro e2 w2 ⟨rfl, hB2⟩)
        | (go_at_call 23; refine (hs.out _).mono ?_; rintro e3 w3 ⟨rfl, hB3⟩))
    rename_i hH
    have HH := Lib.hid hH
    obtain ⟨q0, q1, q2, q3, qB⟩ := hH
    clear qB hB2 hB3
    cases sh with
    | true =>
      go_wp2_with fail
      refine (hfm.out _).mono ?_
      rintro e5 w5 ⟨rfl, hB5⟩
      have hH5 := keepL HH.out hB5
      have HH5 := Lib.hid hH5
      obtain ⟨q0, q1, q2, q3, qB⟩ := hH5
      have hF : F = formL c := HFs.out
      have cf := fill_any (formL c) ⟨c, jt, jf, k⟩ w5 (by have := formL_len c; omega) HI.out (Ht.out.later qB)
      have HFF := Lib.hid hF
      have Cf := Lib.hid cf
      clear cf hF qB hB5
      go_wp2_with fail
      refine Cf.out.mono ?_
      rintro e w6 ⟨rfl, hB⟩
      have HBf := Lib.hid ((lastL HH5.out).trans (hB.mono (lastL HH5.out).size))
      clear hB
      go_wp2_with fail
      go_ret
      rw [HFF.out]
      exact ⟨rfl, HBf.out⟩
    | false =>
      have hF : F = rawL := HFs.out
      have cf := fun W (hW : Tab10 W) => fill_any rawL ⟨c, jt, jf, k⟩ W (by decide) HI.out hW
      have HFF := Lib.hid hF
      have Cf := Lib.hid cf
      clear cf hF
      go_wp2_with fail
      refine (Cf.out _ (Ht.out.later (lastL HH.out))).mono ?_
      rintro e w6 ⟨rfl, hB⟩
      have HBf := Lib.hid ((lastL HH.out).trans (hB.mono (lastL HH.out).size))
      clear hB
      go_wp2_with fail
      go_ret
      rw [HFF.out]
      exact ⟨rfl, HBf.out⟩
end Go.Proofs.YtckbcmoanadckaaDoor
