/- Lists of nodes, one behind the other: plain. -/
import Derived.Test.YtedhlofmkehfkaaLawFirst
namespace Go.Proofs.Ytedhlofmkehfkaa
open Go.RowKit Go.Shelf
set_option linter.unusedVariables false
set_option linter.unusedSimpArgs false

/-- The steps of a list, one behind the other, without the end's test. -/
def goT : List Node → List Int → List Part → Option (List Int × List Part)
  | [], st, ps => some (st, ps)
  | n :: ns, st, ps => if (stepT n st ps).1 ≠ 0 then none else goT ns (stepT n st ps).2.1 (stepT n st ps).2.2
theorem goT_cons (n : Node) (ns : List Node) (st : List Int) (ps : List Part) : goT (n :: ns) st ps = if (stepT n st ps).1 ≠ 0 then none else goT ns (stepT n st ps).2.1 (stepT n st ps).2.2 := rfl
theorem run_of_go : ∀ (ns more : List Node) (i : Int) (st st2 : List Int) (ps ps2 : List Part), goT ns st ps = some (st2, ps2) → runT (ns ++ more) i st ps = runT more (i + ns.length) st2 ps2
  | [], more, i, st, st2, ps, ps2, h => by
    cases h
    simp
  | n :: ns, more, i, st, st2, ps, ps2, h => by
    rw [goT_cons] at h
    by_cases hs : (stepT n st ps).1 ≠ 0
    · rw [if_pos hs] at h; cases h
    · rw [if_neg hs] at h
      show runT (n :: (ns ++ more)) i st ps = _
      rw [runT_cons, if_neg hs, run_of_go ns more _ _ _ _ _ h, List.length_cons]
      congr 1
      omega
theorem go_of_run : ∀ (ns : List Node) (i : Int) (st : List Int) (ps : List Part), (runT ns i st ps).2.1 = 0 → goT ns st ps = some ((runT ns i st ps).2.2.1, (runT ns i st ps).2.2.2) ∧ oneB (runT ns i st ps).2.2.1 = true
  | [], i, st, ps, h => by
    unfold runT at h ⊢
    by_cases ho : oneB st = true
    · rw [if_pos ho]; exact ⟨rfl, ho⟩
    · rw [if_neg ho] at h; cases h
  | n :: ns, i, st, ps, h => by
    rw [runT_cons] at h ⊢
    rw [goT_cons]
    by_cases hs : (stepT n st ps).1 ≠ 0
    · rw [if_pos hs] at h; exact absurd h hs
    · rw [if_neg hs] at h
      rw [if_neg hs, if_neg hs]
      exact go_of_run ns _ _ _ h
theorem go_append : ∀ (a b : List Node) (st st2 : List Int) (ps ps2 : List Part), goT a st ps = some (st2, ps2) → goT (a ++ b) st ps = goT b st2 ps2
  | [], b, st, st2, ps, ps2, h => by cases h; rfl
  | n :: a, b, st, st2, ps, ps2, h => by
    rw [goT_cons] at h
    by_cases hs : (stepT n st ps).1 ≠ 0
    · rw [if_pos hs] at h; cases h
    · rw [if_neg hs] at h
      show goT (n :: (a ++ b)) st ps = _
      rw [goT_cons, if_neg hs]
      exact go_append a b _ _ _ _ h
/-- Places, moved by k. -/
def mv (k : Nat) (st : List Int) : List Int := st.map (· + (k : Int))
theorem mv_len (k : Nat) (st : List Int) : (mv k st).length = st.length := by simp [mv]
theorem mv_get {st0 st : List Int} {i : Nat} (hi : i < st.length) : (st0 ++ mv st0.length st).getD (st0.length + i) 0 = st.getD i 0 + (st0.length : Int) := by
  simp [mv, List.getD_eq_getElem?_getD, List.getElem?_append_right, hi]
theorem downs_shift {st0 st : List Int} (hs : StartsOk st) : ∀ (a : Nat) (at_ r : Int), 0 ≤ at_ → at_ ≤ st.length → downs st a at_ = some r → downs (st0 ++ mv st0.length st) a (at_ + (st0.length : Int)) = some (r + (st0.length : Int))
  | 0, at_, r, h0, h1, h => by
    simp only [downs, Option.some.injEq] at h ⊢
    rw [h]
  | a + 1, at_, r, h0, h1, h => by
    unfold downs at h ⊢
    by_cases hz : at_ = 0
    · rw [if_pos hz] at h; cases h
    · rw [if_neg hz] at h
      rw [if_neg (by omega)]
      have hi : at_.toNat - 1 < st.length := by omega
      have e : (at_ + (st0.length : Int)).toNat - 1 = st0.length + (at_.toNat - 1) := by omega
      rw [e, mv_get hi]
      have hb := hs _ hi
      exact downs_shift hs a _ r hb.1 (by omega) h
theorem addL_shift {st0 st st2 : List Int} {a : Nat} (hs : StartsOk st) (h : addL st a = some st2) : addL (st0 ++ mv st0.length st) a = some (st0 ++ mv st0.length st2) := by
  unfold addL at h ⊢
  cases hd : downs st a st.length with
  | none => rw [hd] at h; cases h
  | some r =>
    rw [hd] at h
    cases h
    have := downs_shift (st0 := st0) hs a st.length r (by omega) (Int.le_refl _) hd
    have e : (((st0 ++ mv st0.length st).length : Nat) : Int) = (st.length : Int) + (st0.length : Int) := by rw [List.length_append, mv_len]; omega
    rw [e, this]
    simp [mv]
theorem addL_starts {st st2 : List Int} {a : Nat} (hs : StartsOk st) (h : addL st a = some st2) : StartsOk st2 := by
  unfold addL at h
  cases hd : downs st a st.length with
  | none => rw [hd] at h; cases h
  | some r =>
    rw [hd] at h
    cases h
    have := downs_range hs a _ _ (by omega) (Int.le_refl _) hd
    exact hs.snoc this.1 this.2
theorem ps_get {ps0 ps : List Part} {i : Nat} : (ps0 ++ ps).getD (ps0.length + i) Part.zero = ps.getD i Part.zero := by
  simp [List.getD_eq_getElem?_getD, List.getElem?_append_right]
theorem kids_shift {st0 st st2 : List Int} {ps0 ps : List Part} {a : Nat} (hs : StartsOk st) (h : addL st a = some st2) (h0 : ps0.length = st0.length) : kidsL a (st0 ++ mv st0.length st) (ps0 ++ ps) = kidsL a st ps := by
  unfold kidsL
  by_cases h1 : a = 1
  · subst h1
    have hp : 0 < st.length := by
      cases st with
      | nil => cases h
      | cons x l => simp
    have e : (st0 ++ mv st0.length st).length - 1 = ps0.length + (st.length - 1) := by rw [List.length_append, mv_len]; omega
    rw [if_pos rfl, if_pos rfl, e, ps_get]
  · rw [if_neg h1, if_neg h1]
    by_cases h2 : a = 2
    · subst h2
      have hp : 0 < st.length := by
        cases st with
        | nil => cases h
        | cons x l => simp
      have e : (st0 ++ mv st0.length st).length - 1 = ps0.length + (st.length - 1) := by rw [List.length_append, mv_len]; omega
      rw [if_pos rfl, if_pos rfl, e, ps_get, h0, mv_get (by omega), ← h0]
      have hv := hs (st.length - 1) (by omega)
      have hn : st.getD (st.length - 1) 0 ≠ 0 := by
        intro hz
        unfold addL at h
        unfold downs at h
        rw [if_neg (by omega)] at h
        have e2 : ((st.length : Int)).toNat - 1 = st.length - 1 := by omega
        rw [e2, hz] at h
        cases h
      have e3 : (st.getD (st.length - 1) 0 + (ps0.length : Int) - 1).toNat = ps0.length + (st.getD (st.length - 1) 0 - 1).toNat := by omega
      rw [e3, ps_get]
    · rw [if_neg h2, if_neg h2]
theorem step_shift {n : Node} {st0 st : List Int} {ps0 ps : List Part} (hs : StartsOk st) (h0 : ps0.length = st0.length) (h : (stepT n st ps).1 = 0) :
    stepT n (st0 ++ mv st0.length st) (ps0 ++ ps) = (0, st0 ++ mv st0.length (stepT n st ps).2.1, ps0 ++ (stepT n st ps).2.2) := by
  obtain ⟨a, st2, ha, hb, h1, h2, h3, h4, e⟩ := stepT_ok h
  rw [e]
  unfold stepT
  simp only [ha, addL_shift (st0 := st0) hs hb, kids_shift (ps := ps) hs hb h0]
  rw [if_neg (by simp [h1]), if_neg (by simp [h2]), if_neg (by simp [h3]), if_neg (fun hh => by rw [h4 hh.1] at hh; cases hh.2)]
  simp
theorem step_starts {n : Node} {st : List Int} {ps : List Part} (hs : StartsOk st) (h : (stepT n st ps).1 = 0) : StartsOk (stepT n st ps).2.1 := by
  obtain ⟨a, st2, ha, hb, h1, h2, h3, h4, e⟩ := stepT_ok h
  rw [e]
  exact addL_starts hs hb
theorem go_starts : ∀ {ns : List Node} {st st2 : List Int} {ps ps2 : List Part}, StartsOk st → goT ns st ps = some (st2, ps2) → StartsOk st2
  | [], st, st2, ps, ps2, hs, h => by cases h; exact hs
  | n :: ns, st, st2, ps, ps2, hs, h => by
    rw [goT_cons] at h
    by_cases hc : (stepT n st ps).1 ≠ 0
    · rw [if_pos hc] at h; cases h
    · rw [if_neg hc] at h
      exact go_starts (step_starts hs (by simpa using hc)) h
theorem go_len : ∀ {ns : List Node} {st st2 : List Int} {ps ps2 : List Part}, goT ns st ps = some (st2, ps2) → st2.length = st.length + ns.length ∧ ps2.length = ps.length + ns.length
  | [], st, st2, ps, ps2, h => by cases h; simp
  | n :: ns, st, st2, ps, ps2, h => by
    rw [goT_cons] at h
    by_cases hc : (stepT n st ps).1 ≠ 0
    · rw [if_pos hc] at h; cases h
    · rw [if_neg hc] at h
      have hc0 : (stepT n st ps).1 = 0 := by simpa using hc
      obtain ⟨h1, h2⟩ := go_len h
      obtain ⟨a, st3, ha, hb, _, _, _, _, e⟩ := stepT_ok hc0
      rw [e] at h1 h2
      have := addL_len hb
      simp only [List.length_append, List.length_cons, List.length_nil] at h1 h2 ⊢
      omega
theorem go_shift : ∀ {ns : List Node} {st0 st st2 : List Int} {ps0 ps ps2 : List Part}, StartsOk st → ps0.length = st0.length → goT ns st ps = some (st2, ps2) →
    goT ns (st0 ++ mv st0.length st) (ps0 ++ ps) = some (st0 ++ mv st0.length st2, ps0 ++ ps2)
  | [], st0, st, st2, ps0, ps, ps2, hs, h0, h => by cases h; rfl
  | n :: ns, st0, st, st2, ps0, ps, ps2, hs, h0, h => by
    rw [goT_cons] at h
    by_cases hc : (stepT n st ps).1 ≠ 0
    · rw [if_pos hc] at h; cases h
    · rw [if_neg hc] at h
      have hc0 : (stepT n st ps).1 = 0 := by simpa using hc
      rw [goT_cons, step_shift hs h0 hc0, if_neg (by simp)]
      exact go_shift (step_starts hs hc0) h0 h
theorem StartsOk.nil : StartsOk [] := fun i hi => by cases hi
/-- What a list without an error is: its starts, its parts; one tree. -/
structure Tree (ns : List Node) (st : List Int) (ps : List Part) : Prop where
  go : goT ns [] [] = some (st, ps)
  starts : StartsOk st
  slen : st.length = ns.length
  plen : ps.length = ns.length
  pos : 0 < ns.length
  root : st.getD (ns.length - 1) 0 = 0
theorem tree_of {ns : List Node} (h : (runT ns 0 [] []).2.1 = 0) : Tree ns (runT ns 0 [] []).2.2.1 (runT ns 0 [] []).2.2.2 := by
  obtain ⟨hg, ho⟩ := go_of_run ns 0 [] [] h
  obtain ⟨h1, h2⟩ := go_len hg
  have ho' := of_decide_eq_true ho
  have e : (runT ns 0 [] []).2.2.1.length = ns.length := by simpa using h1
  refine ⟨hg, go_starts StartsOk.nil hg, e, by simpa using h2, by omega, ?_⟩
  rw [← e]
  exact ho'.2
theorem Tree.run {ns : List Node} {st : List Int} {ps : List Part} (h : Tree ns st ps) (i : Int) : runT ns i [] [] = (0, 0, st, ps) := by
  have := run_of_go ns [] i [] st [] ps h.go
  rw [List.append_nil] at this
  rw [this]
  have ho : oneB st = true := decide_eq_true ⟨by rw [h.slen]; exact h.pos, by rw [h.slen]; exact h.root⟩
  show (if oneB st then (0, 0, st, ps) else _) = _
  rw [if_pos ho]
/-- Two trees, one behind the other. -/
theorem go_two {a b : List Node} {sa sb : List Int} {pa pb : List Part} (ha : Tree a sa pa) (hb : Tree b sb pb) : goT (a ++ b) [] [] = some (sa ++ mv sa.length sb, pa ++ pb) := by
  rw [go_append a b _ _ _ _ ha.go]
  have := go_shift (st0 := sa) (ps0 := pa) StartsOk.nil (by rw [ha.plen, ha.slen]) hb.go
  simpa [mv] using this
end Go.Proofs.Ytedhlofmkehfkaa
