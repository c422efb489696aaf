/- What is wrong with a node is told by the nodes up to it: plain. -/
import Derived.Test.YtedhlofmkehfkaaChk2
namespace Go.Proofs.Ytedhlofmkehfkaa
open Go.RowKit Go.Shelf
set_option linter.unusedVariables false
set_option linter.unusedSimpArgs false

theorem made_truth {n : Node} {t wa : Bool} {kids : List Part} (h : (madeL n t wa kids).2 = 0) : (madeL n t wa kids).1.truth = t := by
  unfold madeL at h ⊢
  by_cases h0 : kidsBad wa kids = true
  · rw [if_pos h0] at h
    cases wa <;> cases h
  · rw [if_neg h0]
    split
    · rfl
    · split
      · rfl
      · split
        · split
          · rfl
          · split <;> rfl
        · rfl
/-- A node's step without an error. -/
theorem stepT_ok {n : Node} {st : List Int} {ps : List Part} (h : (stepT n st ps).1 = 0) :
    ∃ a st2, arityK n.kind = some a ∧ addL st a = some st2 ∧ unusedB n.kind n = true ∧ (madeL n (truthK n.kind) (wantsK n.kind) (kidsL a st ps)).2 = 0 ∧ fitsB n.kind n = true ∧ (n.kind = 15 → wholeB n = true) ∧
      stepT n st ps = (0, st2, ps ++ [(madeL n (truthK n.kind) (wantsK n.kind) (kidsL a st ps)).1]) := by
  have h' := h
  unfold stepT at h
  cases ha : arityK n.kind with
  | none => rw [ha] at h; cases h
  | some a =>
    simp only [ha] at h
    cases hb : addL st a with
    | none => rw [hb] at h; cases h
    | some st2 =>
      simp only [hb] at h
      by_cases h1 : unusedB n.kind n = false
      · rw [if_pos h1] at h; cases h
      · rw [if_neg h1] at h
        by_cases h2 : (madeL n (truthK n.kind) (wantsK n.kind) (kidsL a st ps)).2 ≠ 0
        · rw [if_pos h2] at h; exact absurd h h2
        · rw [if_neg h2] at h
          by_cases h3 : fitsB n.kind n = false
          · rw [if_pos h3] at h; cases h
          · rw [if_neg h3] at h
            by_cases h4 : n.kind = 15 ∧ wholeB n = false
            · rw [if_pos h4] at h; cases h
            · refine ⟨a, st2, rfl, hb, by simpa using h1, by simpa using h2, by simpa using h3, ?_, ?_⟩
              · intro hk
                cases hw : wholeB n with
                | true => rfl
                | false => exact absurd ⟨hk, hw⟩ h4
              · unfold stepT
                simp only [ha, hb]
                rw [if_neg h1, if_neg h2, if_neg h3, if_neg h4]
theorem runT_cons (n : Node) (ns : List Node) (i : Int) (st : List Int) (ps : List Part) : runT (n :: ns) i st ps = if (stepT n st ps).1 ≠ 0 then (i, (stepT n st ps).1, st, ps) else runT ns (i + 1) (stepT n st ps).2.1 (stepT n st ps).2.2 := rfl
/-- An error ahead of the end is told by the nodes up to it. -/
theorem runT_err : ∀ (ns : List Node) (i : Int) (st : List Int) (ps : List Part), (runT ns i st ps).2.1 ≠ 0 → (runT ns i st ps).1 < i + ns.length →
    ∃ j : Nat, j < ns.length ∧ (runT ns i st ps).1 = i + j ∧ ∀ more, runT (ns.take (j + 1) ++ more) i st ps = runT ns i st ps
  | [], i, st, ps, h, hp => by
    exfalso
    unfold runT at h hp
    by_cases ho : oneB st = true
    · rw [if_pos ho] at h; exact h rfl
    · rw [if_neg ho] at hp; simp at hp
  | n :: ns, i, st, ps, h, hp => by
    rw [runT_cons] at h hp
    by_cases hs : (stepT n st ps).1 ≠ 0
    · refine ⟨0, by simp, ?_, fun more => ?_⟩
      · rw [runT_cons, if_pos hs]; simp
      · show runT (n :: more) i st ps = _
        rw [runT_cons, runT_cons, if_pos hs, if_pos hs]
    · rw [if_neg hs] at h hp
      obtain ⟨j, hj, hpl, hm⟩ := runT_err ns (i + 1) _ _ h (by rw [List.length_cons] at hp; omega)
      refine ⟨j + 1, by simpa using hj, ?_, fun more => ?_⟩
      · rw [runT_cons, if_neg hs, hpl]; omega
      · show runT (n :: (ns.take (j + 1) ++ more)) i st ps = _
        rw [runT_cons, runT_cons, if_neg hs, if_neg hs, hm more]
/-- Behind a run without an error each part's truth is its node's. -/
theorem runT_truth : ∀ (ns : List Node) (i : Int) (st : List Int) (ps : List Part), (runT ns i st ps).2.1 = 0 →
    (runT ns i st ps).2.2.2.map Part.truth = ps.map Part.truth ++ ns.map fun n => truthK n.kind
  | [], i, st, ps, h => by
    unfold runT
    split <;> simp
  | n :: ns, i, st, ps, h => by
    rw [runT_cons] at h ⊢
    by_cases hs : (stepT n st ps).1 ≠ 0
    · rw [if_pos hs] at h; exact absurd h hs
    · rw [if_neg hs] at h ⊢
      rw [runT_truth ns _ _ _ h]
      obtain ⟨a, st2, _, _, _, hm, _, _, e⟩ := stepT_ok (by simpa using hs)
      rw [e]
      simp [made_truth hm]
theorem root_truth {ns : List Node} (h : (runT ns 0 [] []).2.1 = 0) (hp : 0 < ns.length) : ((runT ns 0 [] []).2.2.2.getD (ns.length - 1) Part.zero).truth = truthK (ns.getD (ns.length - 1) Node.zero).kind := by
  have ht := runT_truth ns 0 [] [] h
  rw [List.map_nil, List.nil_append] at ht
  have hl : (runT ns 0 [] []).2.2.2.length = ns.length := by
    have := congrArg List.length ht
    simpa using this
  have := congrArg (fun l => l.getD (ns.length - 1) false) ht
  simp only [List.getD_eq_getElem?_getD, List.getElem?_map] at this ⊢
  rw [List.getElem?_eq_getElem (by omega)] at this ⊢
  rw [List.getElem?_eq_getElem (by omega)] at this ⊢
  simpa using this
theorem weighT_code : ∀ (ns : List Node) (i s : Int), (weighT ns i s).2 = 0 ∨ (weighT ns i s).2 = 126
  | [], i, s => .inl rfl
  | n :: ns, i, s => by
    unfold weighT
    split
    · exact .inr rfl
    · exact weighT_code ns _ _
theorem truthK_false {k : Int} (h : truthK k = false) : k ≠ 7 ∧ k ≠ 8 ∧ k ≠ 9 := by
  refine ⟨?_, ?_, ?_⟩ <;> rintro rfl <;> exact absurd h (by decide)
/-- The law: where the error isn't the whole's (its weight, its end, its being no truth). -/
theorem check_first {ns : List Node} {j : Nat} {er : Int} (h : checkT ns = ((j : Int), er)) (h0 : er ≠ 0) (h126 : er ≠ 126) (hj : j < ns.length)
    (h121 : ¬ (er = 121 ∧ (ns.getD j Node.zero).kind ≠ 7 ∧ (ns.getD j Node.zero).kind ≠ 8 ∧ (ns.getD j Node.zero).kind ≠ 9)) :
    ∀ more, checkT (ns.take (j + 1) ++ more) = ((j : Int), er) := by
  have hp : 0 < ns.length := by omega
  unfold checkT at h
  by_cases hc : (runT ns 0 [] []).2.1 ≠ 0
  · rw [if_pos hc] at h
    have e1 : (runT ns 0 [] []).1 = j := congrArg Prod.fst h
    have e2 : (runT ns 0 [] []).2.1 = er := congrArg Prod.snd h
    obtain ⟨j', hj', hpl, hm⟩ := runT_err ns 0 [] [] hc (by rw [e1]; omega)
    have : j' = j := by omega
    subst this
    intro more
    unfold checkT
    rw [hm more, if_pos hc, e1, e2]
  · exfalso
    rw [if_neg hc] at h
    have hc0 : (runT ns 0 [] []).2.1 = 0 := by simpa using hc
    rw [root_truth hc0 hp] at h
    by_cases ht : truthK (ns.getD (ns.length - 1) Node.zero).kind = false
    · rw [if_pos ht] at h
      have e1 : (ns.length : Int) - 1 = j := congrArg Prod.fst h
      have e2 : 121 = er := congrArg Prod.snd h
      have : ns.length - 1 = j := by omega
      rw [this] at ht
      exact h121 ⟨e2.symm, truthK_false ht⟩
    · rw [if_neg ht] at h
      have e2 : (weighT ns 0 0).2 = er := congrArg Prod.snd h
      rcases weighT_code ns 0 0 with h' | h'
      · exact h0 (by rw [← e2, h'])
      · exact h126 (by rw [← e2, h'])
theorem runT_place : ∀ (ns : List Node) (i : Int) (st : List Int) (ps : List Part), 0 ≤ i → 0 ≤ (runT ns i st ps).1
  | [], i, st, ps, h => by
    unfold runT
    split
    · exact Int.le_refl _
    · exact h
  | n :: ns, i, st, ps, h => by
    rw [runT_cons]
    split
    · exact h
    · exact runT_place ns _ _ _ (by omega)
theorem weighT_place : ∀ (ns : List Node) (i s : Int), 0 ≤ i → 0 ≤ (weighT ns i s).1
  | [], i, s, h => Int.le_refl _
  | n :: ns, i, s, h => by
    unfold weighT
    split
    · exact h
    · exact weighT_place ns _ _ (by omega)
theorem check_place (ns : List Node) : 0 ≤ (checkT ns).1 := by
  unfold checkT
  split
  · exact runT_place _ _ _ _ (Int.le_refl _)
  · rename_i hc
    split
    · cases ns with
      | nil => exact absurd (show (runT [] 0 [] []).2.1 ≠ 0 by decide) hc
      | cons n ns => simp only [List.length_cons]; omega
    · exact weighT_place _ _ _ (Int.le_refl _)
end Go.Proofs.Ytedhlofmkehfkaa
