/- A node's field spoilt: plain. -/
import Derived.Test.YtedhlofmkehfkaaLawJoin
namespace Go.Proofs.Ytedhlofmkehfkaa
open Go.RowKit Go.Shelf
set_option linter.unusedVariables false
set_option linter.unusedSimpArgs false

/-- The node, one of its fields spoilt that its kind does not use, or its kind. -/
def spoilN (h l : Int) (x : Node) : Node :=
  if h = 0 then { x with kind := 17 + l % 9 } else
  if h = 1 then { x with kind := -x.kind } else
  if h = 2 then (if x.kind = 4 ∨ x.kind = 6 then { x with op := 11 } else { x with op := 1 }) else
  if h = 3 then (if x.kind ≠ 3 then { x with size := 1 } else { x with of := 13 }) else
  if h = 4 then (if x.kind ≠ 15 then { x with bits := -1 } else { x with side := 3 }) else
  (if x.kind ≠ 14 ∧ x.kind ≠ 15 then { x with addr := { x.addr with b0 := 1 } } else { x with of := 4 })
theorem sixteen {k : Int} (h : ∃ a, arityK k = some a) : k = 1 ∨ k = 2 ∨ k = 3 ∨ k = 4 ∨ k = 5 ∨ k = 6 ∨ k = 7 ∨ k = 8 ∨ k = 9 ∨ k = 10 ∨ k = 11 ∨ k = 12 ∨ k = 13 ∨ k = 14 ∨ k = 15 ∨ k = 16 := by
  obtain ⟨a, ha⟩ := h
  have := arityK_range ha
  omega
theorem spoil_op {n : Node} (h : ∃ a, arityK n.kind = some a) : unusedB n.kind (if n.kind = 4 ∨ n.kind = 6 then { n with op := 11 } else { n with op := 1 }) = false := by
  rcases sixteen h with e | e | e | e | e | e | e | e | e | e | e | e | e | e | e | e <;> simp [unusedB, onlyB, inR, Node.zero, e]
theorem spoil_size {n : Node} (h : ∃ a, arityK n.kind = some a) : unusedB n.kind (if n.kind ≠ 3 then { n with size := 1 } else { n with of := 13 }) = false := by
  rcases sixteen h with e | e | e | e | e | e | e | e | e | e | e | e | e | e | e | e <;> simp [unusedB, onlyB, inR, Node.zero, e]
theorem spoil_bits {n : Node} (h : ∃ a, arityK n.kind = some a) : unusedB n.kind (if n.kind ≠ 15 then { n with bits := -1 } else { n with side := 3 }) = false := by
  rcases sixteen h with e | e | e | e | e | e | e | e | e | e | e | e | e | e | e | e <;> simp [unusedB, onlyB, inR, netB, Node.zero, e]
theorem spoil_addr {n : Node} (h : ∃ a, arityK n.kind = some a) : unusedB n.kind (if n.kind ≠ 14 ∧ n.kind ≠ 15 then { n with addr := { n.addr with b0 := 1 } } else { n with of := 4 }) = false := by
  rcases sixteen h with e | e | e | e | e | e | e | e | e | e | e | e | e | e | e | e <;> simp [unusedB, onlyB, inR, netB, Node.zero, A16.zero, e]
theorem step_unused {n n2 : Node} {st : List Int} {ps : List Part} (hs : (stepT n st ps).1 = 0) (hk : n2.kind = n.kind) (hu : unusedB n.kind n2 = false) : stepT n2 st ps = (120, st, ps) := by
  obtain ⟨a, st2, ha, hb, _⟩ := stepT_ok hs
  unfold stepT
  rw [hk]
  simp only [ha, hb]
  rw [if_pos hu]
theorem step_nokind {n2 : Node} {st : List Int} {ps : List Part} (h : arityK n2.kind = none) : stepT n2 st ps = (120, st, ps) := by
  unfold stepT
  rw [h]
theorem arityK_no {k : Int} (h : k < 1 ∨ 16 < k) : arityK k = none := by
  unfold arityK
  rw [if_neg (by omega), if_neg (by omega), if_neg (by omega)]
theorem spoil_step {n : Node} {st : List Int} {ps : List Part} {h l : Int} (hs : (stepT n st ps).1 = 0) (hl : 0 ≤ l) : stepT (spoilN h l n) st ps = (120, st, ps) := by
  have hk := stepT_kind hs
  have hr := sixteen hk
  unfold spoilN
  by_cases h0 : h = 0
  · rw [if_pos h0]
    exact step_nokind (arityK_no (.inr (by show 16 < 17 + l % 9; omega)))
  rw [if_neg h0]
  by_cases h1 : h = 1
  · rw [if_pos h1]
    exact step_nokind (arityK_no (.inl (by show -n.kind < 1; omega)))
  rw [if_neg h1]
  by_cases h2 : h = 2
  · rw [if_pos h2]
    exact step_unused hs (by split <;> rfl) (spoil_op hk)
  rw [if_neg h2]
  by_cases h3 : h = 3
  · rw [if_pos h3]
    exact step_unused hs (by split <;> rfl) (spoil_size hk)
  rw [if_neg h3]
  by_cases h4 : h = 4
  · rw [if_pos h4]
    exact step_unused hs (by split <;> rfl) (spoil_bits hk)
  rw [if_neg h4]
  exact step_unused hs (by split <;> rfl) (spoil_addr hk)
/-- The steps up to a place. -/
theorem go_split : ∀ {a b : List Node} {st st2 : List Int} {ps ps2 : List Part}, goT (a ++ b) st ps = some (st2, ps2) → ∃ st1 ps1, goT a st ps = some (st1, ps1) ∧ goT b st1 ps1 = some (st2, ps2)
  | [], b, st, st2, ps, ps2, h => ⟨st, ps, rfl, h⟩
  | n :: a, b, st, st2, ps, ps2, h => by
    have h : goT (n :: (a ++ b)) st ps = some (st2, ps2) := h
    rw [goT_cons] at h
    by_cases hs : (stepT n st ps).1 ≠ 0
    · rw [if_pos hs] at h; cases h
    · rw [if_neg hs] at h
      obtain ⟨st1, ps1, h1, h2⟩ := go_split h
      exact ⟨st1, ps1, by rw [goT_cons, if_neg hs]; exact h1, h2⟩
theorem list_split {ns : List Node} {i : Nat} (hi : i < ns.length) : ns = ns.take i ++ ns.getD i Node.zero :: ns.drop (i + 1) := by
  have e : ns.getD i Node.zero = ns[i] := by simp [List.getD_eq_getElem?_getD, List.getElem?_eq_getElem hi]
  rw [e, ← List.drop_eq_getElem_cons hi, List.take_append_drop]
theorem list_set {ns : List Node} {i : Nat} (hi : i < ns.length) (x : Node) : ns.set i x = ns.take i ++ x :: ns.drop (i + 1) := by
  rw [List.set_eq_take_append_cons_drop, if_pos hi]
theorem spoil_check {ns : List Node} {i : Nat} {h l : Int} (hok : (checkT ns).2 = 0) (hi : i < ns.length) (hl : 0 ≤ l) : checkT (ns.set i (spoilN h l (ns.getD i Node.zero))) = ((i : Int), 120) := by
  obtain ⟨h1, _, _⟩ := check_ok hok
  have hg := (tree_of h1).go
  rw [list_split hi] at hg
  obtain ⟨st1, ps1, g1, g2⟩ := go_split hg
  rw [← list_split hi] at g2
  have hs : (stepT (ns.getD i Node.zero) st1 ps1).1 = 0 := by
    rw [goT_cons] at g2
    by_cases hc : (stepT (ns.getD i Node.zero) st1 ps1).1 ≠ 0
    · rw [if_pos hc] at g2; cases g2
    · simpa using hc
  have he := check_err g1 (spoil_step (h := h) hs hl) (by decide) (ns.drop (i + 1))
  rw [list_set hi, he, List.length_take]
  congr 2
  omega
end Go.Proofs.Ytedhlofmkehfkaa
