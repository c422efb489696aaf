/- riddlelaw12.awake: it answers true. -/
import Derived.Test.YtedhlofmkehfkaaParts
import Derived.Test.YtedhlofmkehfkaaChk2
namespace Go.Proofs.Ytedhlofmkehfkaa
open Go.RowKit Go.Shelf
set_option linter.unusedVariables false
set_option linter.unusedSimpArgs false

abbrev wordN : Node := Node.kf 11 2
theorem zero_bytes : ∀ x ∈ A16.zero.list, isByte x := by
  intro x hx
  have : x = 0 := by
    simp [A16.zero, A16.list] at hx
    exact hx
  subst this
  exact ⟨by decide, by decide⟩
/-- A list of nodes of small numbers and no address. -/
theorem nodesOk_of {l : List Node} (h : ∀ n ∈ l, n.addr = A16.zero ∧ isU32 n.n) (hl : l.length ≤ 1000) : NodesOk l :=
  ⟨fun n hn => by unfold Node.bytes; rw [(h n hn).1]; exact zero_bytes, fun n hn => (h n hn).2, by omega⟩
theorem check_ww : checkT [wordN, wordN] = (2, 120) := by kernel_rfl
theorem check_w : checkT [wordN] = (0, 0) := by kernel_rfl
theorem const_5 : constT [Node.kn 1 5, Node.k0 5] = (4294967291, true) := by kernel_rfl
theorem parts_w : partsT [wordN, Node.k0 9] = some [[wordN]] := by kernel_rfl
theorem weight_w : weightT [wordN] = 12 := by kernel_rfl
theorem ok_ww : NodesOk [wordN, wordN] := nodesOk_of (by simp [Node.kf, Node.zero, isU32]) (by simp)
theorem ok_w : NodesOk [wordN] := nodesOk_of (by simp [Node.kf, Node.zero, isU32]) (by simp)
theorem ok_5 : NodesOk [Node.kn 1 5, Node.k0 5] := nodesOk_of (by simp [Node.kn, Node.k0, Node.zero, isU32]) (by simp)
theorem keep3 {w4 V V' : World} {a : Addr} {v : Value} {p : Addr} {n : Node} (h : V.cell? a = some v ∧ nodeAt V p = some n ∧ Below w4.heap.size w4 V) (hb : Below V.heap.size V V') : V'.cell? a = some v ∧ nodeAt V' p = some n ∧ Below w4.heap.size w4 V' :=
  ⟨(hb.cell (World.block_lt_of_cell? V _ h.1)).trans h.1, nodeAt_later hb h.2.1, h.2.2.trans (hb.mono h.2.2.size)⟩
theorem last3 {a b c : Prop} (H : a ∧ b ∧ c) : c := H.2.2
theorem same_ww : decide ([wordN] = [wordN]) = true := by simp
set_option maxRecDepth 100000 in
set_option maxHeartbeats 1600000 in
theorem awake_any (w : World) : Calls Try.prog 15 #[] w fun e w' => e = .returned (.bool true) ∧ Below w.heap.size w w' := by
  go_enter Try.func15, Try.ntmps15
  go_wp2_with fail
  have c1 := check_any (some ⟨w.heap.size + 1, 0, none⟩) 2 [wordN, wordN] ((w.alloc (.cells (enc wordN) 40)).alloc (.cells (flat [wordN, wordN]).toArray 40)) (by have := ns_new (w := w.alloc (.cells (enc wordN) 40)) (l := [wordN, wordN]); simpa using this) ok_ww
  rw [check_ww] at c1
  refine c1.mono ?_
  rintro e w1 ⟨rfl, hB⟩
  have hn0 : nodeAt w1 ⟨w.heap.size, 0, none⟩ = some wordN := nodeAt_later hB (by
    rw [nodeAt_alloc _ (by simp)]
    exact nodeAt_new w _ _)
  have hB1 : Below w.heap.size w w1 := (((Below.refl _ w).alloc (Nat.le_refl _) _).alloc (by simp) _).trans (hB.mono (by simp; omega))
  have Hn0 := Lib.hid hn0
  have HB1 := Lib.hid hB1
  clear hB hB1 c1
  go_wp2_with fail
  have c2 := check_any (some ⟨w1.heap.size, 0, none⟩) 1 [wordN] (w1.alloc (.cells (flat [wordN]).toArray 40)) ns_new ok_w
  rw [check_w] at c2
  refine c2.mono ?_
  rintro e w2 ⟨rfl, hB⟩
  have hB2 : Below w1.heap.size w1 w2 := ((Below.refl _ w1).alloc (Nat.le_refl _) _).trans (hB.mono (by simp))
  have hn2 : nodeAt w2 ⟨w.heap.size, 0, none⟩ = some wordN := nodeAt_later hB2 Hn0.out
  have HB2 := Lib.hid (HB1.out.trans (hB2.mono HB1.out.size))
  have Hn2 := Lib.hid hn2
  clear hB hB2 c2 hn0
  go_wp2_with fail
  have c3 := const_any (some ⟨w2.heap.size, 0, none⟩) 2 [Node.kn 1 5, Node.k0 5] (w2.alloc (.cells (flat [Node.kn 1 5, Node.k0 5]).toArray 40)) ns_new ok_5
  rw [const_5] at c3
  refine c3.mono ?_
  rintro e w3 ⟨rfl, hB⟩
  have hB3 : Below w2.heap.size w2 w3 := ((Below.refl _ w2).alloc (Nat.le_refl _) _).trans (hB.mono (by simp))
  have hn3 : nodeAt w3 ⟨w.heap.size, 0, none⟩ = some wordN := nodeAt_later hB3 Hn2.out
  have HB3 := Lib.hid (HB2.out.trans (hB3.mono HB2.out.size))
  have Hn3 := Lib.hid hn3
  clear hB hB3 c3 hn2
  go_wp2_with fail
  have c4 := parts_any (some ⟨w3.heap.size, 0, none⟩) 2 [wordN, Node.k0 9] (w3.alloc (.cells (flat [wordN, Node.k0 9]).toArray 40)) ns_new (by simp) (by simp)
  rw [parts_w] at c4
  refine c4.mono ?_
  rintro e w4 ⟨hB, hres⟩
  rcases hres with ⟨h, _⟩ | ⟨h, _⟩ | ⟨ls, g, cap, gs, h, hpos, rfl, hNN⟩
  · cases h
  · cases h
  cases h
  have hB4 : Below w3.heap.size w3 w4 := ((Below.refl _ w3).alloc (Nat.le_refl _) _).trans (hB.mono (by simp))
  have hn4 : nodeAt w4 ⟨w.heap.size, 0, none⟩ = some wordN := nodeAt_later hB4 Hn3.out
  have HB4 := Lib.hid (HB3.out.trans (hB4.mono HB3.out.size))
  have r0 : w4.cell? ⟨g, 0, none⟩ = some (.slice (some ⟨(gs.getD 0 (0, 0)).1, 0, none⟩) 1 (gs.getD 0 (0, 0)).2) := hNN.row 0 (by simp)
  obtain ⟨A', c', e', hNs⟩ := (hNN.own 0 (by simp)).ns
  have e' : Value.slice (some ⟨(gs.getD 0 (0, 0)).1, 0, none⟩) 1 (gs.getD 0 (0, 0)).2 = Value.slice A' 1 c' := e'
  obtain ⟨gg, hgg⟩ : ∃ x, gs.getD 0 (0, 0) = x := ⟨_, rfl⟩
  rw [hgg] at r0 e'
  cases e'
  have HNs := Lib.hid (show Ns w4 (some ⟨gg.1, 0, none⟩) [wordN] from hNs)
  clear hB hB4 c4 hn3 hNN hNs hgg hpos
  go_upto_region 6 with fail
  clear e'
  go_region_held3 (fun w' => w'.cell? ⟨g, 0, none⟩ = some (.slice (some ⟨gg.1, 0, none⟩) 1 gg.2) ∧ nodeAt w' ⟨w.heap.size, 0, none⟩ = some wordN ∧ Below w4.heap.size w4 w')
    (first | exact ⟨r0, hn4, (Below.refl _ _).drew⟩ | exact keep3 (by assumption) (by assumption) | exact keep3 (by assumption) ((Below.refl _ _).alloc (Nat.le_refl _) _) | exact keep3 (V := w4.drew) ⟨r0, hn4, (Below.refl w4.heap.size w4).drew⟩ (below_put _ _) | assumption)
    (first
      | (go_at_call 23; refine (same_any _ _ _ 1 [wordN] [wordN] _ (HNs.out.later (last3 (by assumption))) (by first | exact ns_new | exact ns_new.later ((Below.refl _ _).drew)) (by simp) (by simp)).mono ?_; rw [same_ww]; rintro e w5 ⟨rfl, hB5⟩)
      | (go_at_call 18; refine (weight_any _ 1 [wordN] _ (by first | exact ns_new | exact ns_new.later ((Below.refl _ _).drew)) (by simp)).mono ?_; rw [weight_w]; rintro e w6 ⟨rfl, hB6⟩))
  rename_i hH
  have HF := Lib.hid (HB4.out.trans ((last3 hH).mono HB4.out.size))
  clear hH hB5 hB6
  go_wp2_with fail
  go_ret
  exact ⟨rfl, HF.out⟩
end Go.Proofs.Ytedhlofmkehfkaa
