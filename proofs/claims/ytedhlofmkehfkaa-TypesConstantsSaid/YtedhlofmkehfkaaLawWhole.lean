/- A tree's parts: plain. -/
import Derived.Test.YtedhlofmkehfkaaLawSpoil
import Derived.Test.YtedhlofmkehfkaaParts
namespace Go.Proofs.Ytedhlofmkehfkaa
open Go.RowKit Go.Shelf
set_option linter.unusedVariables false
set_option linter.unusedSimpArgs false

theorem ofT_of_go : ∀ {ns : List Node} {st st2 : List Int} {ps ps2 : List Part}, goT ns st ps = some (st2, ps2) → ofT ns st = some st2
  | [], st, st2, ps, ps2, h => by cases h; rfl
  | n :: ns, st, st2, ps, ps2, h => by
    rw [goT_cons] at h
    by_cases hc : (stepT n st ps).1 ≠ 0
    · rw [if_pos hc] at h; cases h
    · rw [if_neg hc] at h
      obtain ⟨a, st3, ha, hb, _, _, _, _, e⟩ := stepT_ok (by simpa using hc)
      rw [e] at h
      simp only [ofT, ha, hb]
      exact ofT_of_go h
/-- Trees lie within each other or apart. -/
def Lam (st : List Int) : Prop := ∀ i j, i < st.length → j ≤ i → st.getD i 0 ≤ j → st.getD i 0 ≤ st.getD j 0
theorem Lam.nil : Lam [] := fun i j hi => by cases hi
theorem downs_lam {st : List Int} (hs : StartsOk st) (hl : Lam st) : ∀ (a : Nat) (at_ r : Int), 0 ≤ at_ → at_ ≤ st.length → downs st a at_ = some r → ∀ j : Nat, r ≤ j → (j : Int) < at_ → r ≤ st.getD j 0
  | 0, at_, r, h0, h1, h, j, hj1, hj2 => by
    simp only [downs, Option.some.injEq] at h
    omega
  | a + 1, at_, r, h0, h1, h, j, hj1, hj2 => by
    unfold downs at h
    by_cases hz : at_ = 0
    · rw [if_pos hz] at h; cases h
    · rw [if_neg hz] at h
      have hi : at_.toNat - 1 < st.length := by omega
      have hb := hs _ hi
      have hr := downs_range hs a _ r hb.1 (by omega) h
      by_cases hj : (j : Int) < st.getD (at_.toNat - 1) 0
      · exact downs_lam hs hl a _ r hb.1 (by omega) h j hj1 hj
      · have := hl (at_.toNat - 1) j hi (by omega) (by omega)
        omega
theorem addL_lam {st st2 : List Int} {a : Nat} (hs : StartsOk st) (hl : Lam st) (h : addL st a = some st2) : Lam st2 := by
  unfold addL at h
  cases hd : downs st a st.length with
  | none => rw [hd] at h; cases h
  | some r =>
    rw [hd] at h
    cases h
    have hr := downs_range hs a _ r (by omega) (Int.le_refl _) hd
    intro i j hi hj hle
    have g1 : ∀ x, x < st.length → (st ++ [r]).getD x 0 = st.getD x 0 := fun x hx => by
      simp only [List.getD_eq_getElem?_getD]
      rw [List.getElem?_append_left hx]
    have g2 : (st ++ [r]).getD st.length 0 = r := by simp [List.getD_eq_getElem?_getD]
    rw [List.length_append, List.length_cons, List.length_nil] at hi
    by_cases hi2 : i < st.length
    · rw [g1 i hi2] at hle ⊢
      rw [g1 j (by omega)]
      exact hl i j hi2 hj hle
    · have : i = st.length := by omega
      subst this
      rw [g2] at hle ⊢
      by_cases hj2 : j < st.length
      · rw [g1 j hj2]
        exact downs_lam hs hl a _ r (by omega) (Int.le_refl _) hd j hle (by omega)
      · have : j = st.length := by omega
        subst this
        rw [g2]
        exact Int.le_refl _
theorem go_lam : ∀ {ns : List Node} {st st2 : List Int} {ps ps2 : List Part}, StartsOk st → Lam st → goT ns st ps = some (st2, ps2) → Lam st2
  | [], st, st2, ps, ps2, hs, hl, h => by cases h; exact hl
  | n :: ns, st, st2, ps, ps2, hs, hl, h => by
    rw [goT_cons] at h
    by_cases hc : (stepT n st ps).1 ≠ 0
    · rw [if_pos hc] at h; cases h
    · rw [if_neg hc] at h
      have hc0 : (stepT n st ps).1 = 0 := by simpa using hc
      obtain ⟨a, st3, ha, hb, _, _, _, _, e⟩ := stepT_ok hc0
      refine go_lam (step_starts hs hc0) ?_ h
      rw [e]
      exact addL_lam hs hl hb
/-- A run keeps the starts that were there. -/
theorem go_prefix : ∀ {ns : List Node} {st st2 : List Int} {ps ps2 : List Part}, goT ns st ps = some (st2, ps2) → ∀ j, j < st.length → st2.getD j 0 = st.getD j 0
  | [], st, st2, ps, ps2, h, j, hj => by cases h; rfl
  | n :: ns, st, st2, ps, ps2, h, j, hj => by
    rw [goT_cons] at h
    by_cases hc : (stepT n st ps).1 ≠ 0
    · rw [if_pos hc] at h; cases h
    · rw [if_neg hc] at h
      have hc0 : (stepT n st ps).1 = 0 := by simpa using hc
      obtain ⟨a, st3, ha, hb, _, _, _, _, e⟩ := stepT_ok hc0
      rw [e] at h
      unfold addL at hb
      cases hd : downs st a st.length with
      | none => rw [hd] at hb; cases hb
      | some r =>
        rw [hd] at hb
        cases hb
        rw [go_prefix h j (by rw [List.length_append]; omega)]
        simp only [List.getD_eq_getElem?_getD]
        rw [List.getElem?_append_left hj]
/-- The way down, back from a longer list. -/
theorem downs_unshift {st0 st : List Int} (h0 : StartsOk st0) (hs : StartsOk st) (hsa : StartsOk (st0 ++ mv st0.length st)) : ∀ (a : Nat) (at_ r : Int), 0 ≤ at_ → at_ ≤ st.length → downs (st0 ++ mv st0.length st) a (at_ + (st0.length : Int)) = some r → (st0.length : Int) ≤ r → downs st a at_ = some (r - (st0.length : Int))
  | 0, at_, r, hn, h1, h, hr => by
    simp only [downs, Option.some.injEq] at h ⊢
    omega
  | a + 1, at_, r, hn, h1, h, hr => by
    unfold downs at h ⊢
    by_cases hz : at_ = 0
    · exfalso
      subst hz
      by_cases hk : (0 : Int) + (st0.length : Int) = 0
      · rw [if_pos hk] at h; cases h
      · rw [if_neg hk] at h
        have hi : ((0 : Int) + (st0.length : Int)).toNat - 1 < st0.length := by omega
        have e : (st0 ++ mv st0.length st).getD (((0 : Int) + (st0.length : Int)).toNat - 1) 0 = st0.getD (((0 : Int) + (st0.length : Int)).toNat - 1) 0 := by
          simp only [List.getD_eq_getElem?_getD]
          rw [List.getElem?_append_left hi]
        rw [e] at h
        have hb := h0 _ hi
        have := downs_range hsa a _ r hb.1 (by rw [List.length_append]; omega) h
        omega
    · rw [if_neg (by omega)] at h
      rw [if_neg hz]
      have hi : at_.toNat - 1 < st.length := by omega
      have e : (at_ + (st0.length : Int)).toNat - 1 = st0.length + (at_.toNat - 1) := by omega
      rw [e, mv_get hi] at h
      have hb := hs _ hi
      exact downs_unshift h0 hs hsa a _ r hb.1 (by omega) h hr
theorem starts_append {st0 st : List Int} (h0 : StartsOk st0) (hs : StartsOk st) : StartsOk (st0 ++ mv st0.length st) := by
  intro i hi
  rw [List.length_append, mv_len] at hi
  by_cases h : i < st0.length
  · have e : (st0 ++ mv st0.length st).getD i 0 = st0.getD i 0 := by
      simp only [List.getD_eq_getElem?_getD]
      rw [List.getElem?_append_left h]
    rw [e]
    exact h0 i h
  · obtain ⟨j, rfl⟩ : ∃ j, i = st0.length + j := ⟨i - st0.length, by omega⟩
    rw [mv_get (by omega)]
    have := hs j (by omega)
    omega
theorem step_unshift {n : Node} {st0 st S2 : List Int} {ps0 ps P2 : List Part} (h0 : StartsOk st0) (hs : StartsOk st) (hp : ps0.length = st0.length) (h : stepT n (st0 ++ mv st0.length st) (ps0 ++ ps) = (0, S2, P2)) (hlast : (st0.length : Int) ≤ S2.getD (st0.length + st.length) 0) :
    (stepT n st ps).1 = 0 := by
  obtain ⟨a, st2, ha, hb, h1, h2, h3, h4, e⟩ := stepT_ok (show (stepT n (st0 ++ mv st0.length st) (ps0 ++ ps)).1 = 0 by rw [h])
  rw [e] at h
  cases h
  have hb' := hb
  unfold addL at hb
  cases hd : downs (st0 ++ mv st0.length st) a (st0 ++ mv st0.length st).length with
  | none => rw [hd] at hb; cases hb
  | some r =>
    rw [hd] at hb
    cases hb
    have el : (st0 ++ mv st0.length st).length = st0.length + st.length := by rw [List.length_append, mv_len]
    rw [← el] at hlast
    simp only [List.getD_eq_getElem?_getD, List.getElem?_append_right (Nat.le_refl _), Nat.sub_self, List.getElem?_cons_zero, Option.getD_some] at hlast
    have e2 : (((st0 ++ mv st0.length st).length : Nat) : Int) = (st.length : Int) + (st0.length : Int) := by omega
    rw [e2] at hd
    have hd2 := downs_unshift h0 hs (starts_append h0 hs) a st.length r (by omega) (Int.le_refl _) hd hlast
    have hadd : addL st a = some (st ++ [r - (st0.length : Int)]) := by
      unfold addL
      rw [hd2]
      rfl
    have hk := kids_shift (st0 := st0) (ps0 := ps0) (ps := ps) hs hadd hp
    rw [hk] at h2
    unfold stepT
    simp only [ha, hadd]
    rw [if_neg (by simp [h1]), if_neg (by simp [h2]), if_neg (by simp [h3]), if_neg (fun hh => by rw [h4 hh.1] at hh; cases hh.2)]
/-- Nodes that build on nothing ahead of them are a run of their own. -/
theorem go_unshift : ∀ {ns : List Node} {st0 st S2 : List Int} {ps0 ps P2 : List Part}, StartsOk st0 → StartsOk st → ps0.length = st0.length → goT ns (st0 ++ mv st0.length st) (ps0 ++ ps) = some (S2, P2) → (∀ j, st0.length + st.length ≤ j → j < S2.length → (st0.length : Int) ≤ S2.getD j 0) →
    ∃ st2 ps2, goT ns st ps = some (st2, ps2) ∧ S2 = st0 ++ mv st0.length st2 ∧ P2 = ps0 ++ ps2
  | [], st0, st, S2, ps0, ps, P2, h0, hs, hp, h, hj => by
    cases h
    exact ⟨st, ps, rfl, rfl, rfl⟩
  | n :: ns, st0, st, S2, ps0, ps, P2, h0, hs, hp, h, hj => by
    rw [goT_cons] at h
    by_cases hc : (stepT n (st0 ++ mv st0.length st) (ps0 ++ ps)).1 ≠ 0
    · rw [if_pos hc] at h; cases h
    · rw [if_neg hc] at h
      have hc0 : (stepT n (st0 ++ mv st0.length st) (ps0 ++ ps)).1 = 0 := by simpa using hc
      have hl := (go_len h).1
      have hpre := go_prefix h
      obtain ⟨a, st3, ha, hb, _, _, _, _, e⟩ := stepT_ok hc0
      have h3 := addL_len hb
      rw [e] at hl hpre h
      rw [List.length_append, mv_len] at h3
      have hs1 : (stepT n st ps).1 = 0 := step_unshift h0 hs hp e (by
        have h4 := hj (st0.length + st.length) (Nat.le_refl _) (by simp only at hl; omega)
        rwa [hpre (st0.length + st.length) (by simp only; omega)] at h4)
      have hsh := step_shift (st0 := st0) (ps0 := ps0) hs hp hs1
      rw [e] at hsh
      rw [goT_cons, if_neg (by simp [hs1])]
      have e1 : st3 = st0 ++ mv st0.length (stepT n st ps).2.1 := congrArg (fun x => x.2.1) hsh
      have e2 := congrArg (fun x => x.2.2) hsh
      simp only at e2 h
      rw [e1, e2] at h
      have hl2 := stepT_len hs1
      exact go_unshift h0 (step_starts hs hs1) hp h fun j hj1 hj2 => hj j (by omega) hj2
theorem made_kids {n : Node} {t wa : Bool} {kids : List Part} (h : (madeL n t wa kids).2 = 0) : ∀ p ∈ kids, p.truth = wa := by
  have hb : kidsBad wa kids = false := by
    cases hk : kidsBad wa kids with
    | false => rfl
    | true =>
      unfold madeL at h
      rw [hk, if_pos rfl] at h
      cases wa <;> cases h
  unfold kidsBad at hb
  rw [List.any_eq_false] at hb
  intro p hp
  have := hb p hp
  simpa using this
theorem check_part {p : List Node} {st : List Int} {ps : List Part} {wa : Bool} (h : Tree p st ps) (ht : (ps.getD (p.length - 1) Part.zero).truth = wa) (hw : weightT p ≤ 3000) : (checkT p).2 = if wa = true then 0 else 121 := by
  rw [h.truth] at ht
  cases wa with
  | true => rw [check_tree h ht, if_pos hw, if_pos rfl]
  | false =>
    have hc := h.run 0
    have hc0 : (runT p 0 [] []).2.1 = 0 := by rw [hc]
    unfold checkT
    rw [if_neg (by simp [hc0]), root_truth hc0 h.pos, ht, if_pos rfl, if_neg (by simp)]
theorem weight_take (l : List Node) (k : Nat) : weightT (l.take k) ≤ weightT l ∧ weightT (l.drop k) ≤ weightT l := by
  have h := weightT_append (l.take k) (l.drop k)
  rw [List.take_append_drop] at h
  have h1 := (weightT_range (l.take k)).1
  have h2 := (weightT_range (l.drop k)).1
  omega
/-- The root's step. -/
theorem root_step {t : List Node} {st : List Int} {ps : List Part} (h : Tree t st ps) : ∃ s1 p1 a, goT (t.take (t.length - 1)) [] [] = some (s1, p1) ∧ arityK (t.getD (t.length - 1) Node.zero).kind = some a ∧ addL s1 a = some st ∧ s1.length = t.length - 1 ∧ p1.length = t.length - 1 ∧
    (∀ p ∈ kidsL a s1 p1, p.truth = wantsK (t.getD (t.length - 1) Node.zero).kind) := by
  have hg := h.go
  rw [last_eq h.pos] at hg
  obtain ⟨s1, p1, h1, h2⟩ := go_split hg
  rw [goT_cons] at h2
  by_cases hc : (stepT (t.getD (t.length - 1) Node.zero) s1 p1).1 ≠ 0
  · rw [if_pos hc] at h2; cases h2
  · rw [if_neg hc] at h2
    obtain ⟨a, st3, ha, hb, _, hm, _, _, e⟩ := stepT_ok (Decidable.not_not.1 hc)
    rw [e] at h2
    cases h2
    obtain ⟨l1, l2⟩ := go_len h1
    have hp := h.pos
    rw [List.length_take] at l1 l2
    exact ⟨s1, p1, a, h1, ha, hb, by simp at l1; omega, by simp at l2; omega, made_kids hm⟩
theorem getD_snoc {s : List Int} {r : Int} {i : Nat} (hi : i < s.length) : (s ++ [r]).getD i 0 = s.getD i 0 := by
  simp only [List.getD_eq_getElem?_getD]
  rw [List.getElem?_append_left hi]
theorem getD_last {s : List Int} {r : Int} : (s ++ [r]).getD s.length 0 = r := by simp [List.getD_eq_getElem?_getD]
theorem parts_one {t : List Node} {st : List Int} {ps : List Part} (h : Tree t st ps) (ha : (arityK (t.getD (t.length - 1) Node.zero).kind).getD 0 = 1) (hw : weightT t ≤ 3000) : (checkT (t.take (t.length - 1))).2 = if wantsK (t.getD (t.length - 1) Node.zero).kind = true then 0 else 121 := by
  obtain ⟨s1, p1, a, h1, ha2, hb, l1, l2, hk⟩ := root_step h
  rw [ha2] at ha
  obtain rfl : a = 1 := ha
  have hp := h.pos
  have hr := h.root
  unfold addL at hb
  cases hd : downs s1 1 s1.length with
  | none => rw [hd] at hb; cases hb
  | some r =>
    rw [hd] at hb
    cases hb
    rw [← l1, getD_last] at hr
    subst hr
    have hpos := downs_one hd
    unfold downs at hd
    rw [if_neg (by omega)] at hd
    have e : ((s1.length : Nat) : Int).toNat - 1 = s1.length - 1 := by omega
    rw [e] at hd
    have hr0 : s1.getD (s1.length - 1) 0 = 0 := by simpa [downs] using hd
    have hlt : (t.take (t.length - 1)).length = t.length - 1 := by rw [List.length_take]; omega
    have hT : Tree (t.take (t.length - 1)) s1 p1 := ⟨h1, go_starts StartsOk.nil h1, by omega, by omega, by omega, by rw [hlt, ← l1]; exact hr0⟩
    refine check_part hT ?_ (by have := (weight_take t (t.length - 1)).1; omega)
    rw [one_kids hT] at hk
    exact hk _ (List.mem_cons_self ..)
theorem parts_both {t : List Node} {st : List Int} {ps : List Part} (h : Tree t st ps) (ha : (arityK (t.getD (t.length - 1) Node.zero).kind).getD 0 = 2) (hw : weightT t ≤ 3000) :
    ∀ p ∈ [t.take (st.getD (t.length - 2) 0).toNat, (t.take (t.length - 1)).drop (st.getD (t.length - 2) 0).toNat], (checkT p).2 = if wantsK (t.getD (t.length - 1) Node.zero).kind = true then 0 else 121 := by
  obtain ⟨s1, p1, a, h1, ha2, hb, l1, l2, hk⟩ := root_step h
  rw [ha2] at ha
  obtain rfl : a = 2 := ha
  have hp := h.pos
  have hr := h.root
  have hs1 := go_starts StartsOk.nil h1
  have hlam := go_lam StartsOk.nil Lam.nil h1
  unfold addL at hb
  cases hd : downs s1 2 s1.length with
  | none => rw [hd] at hb; cases hb
  | some r =>
    rw [hd] at hb
    cases hb
    rw [← l1, getD_last] at hr
    subst hr
    unfold downs at hd
    by_cases hz : ((s1.length : Nat) : Int) = 0
    · rw [if_pos hz] at hd; cases hd
    rw [if_neg hz] at hd
    have e : ((s1.length : Nat) : Int).toNat - 1 = s1.length - 1 := by omega
    rw [e] at hd
    have e2 : t.length - 2 = s1.length - 1 := by omega
    rw [e2, getD_snoc (by omega)]
    have hv := hs1 (s1.length - 1) (by omega)
    obtain ⟨v, hve⟩ : ∃ v, s1.getD (s1.length - 1) 0 = v := ⟨_, rfl⟩
    rw [hve] at hd hv ⊢
    unfold downs at hd
    by_cases hz2 : v = 0
    · rw [if_pos hz2] at hd; cases hd
    rw [if_neg hz2] at hd
    obtain ⟨k, rfl⟩ : ∃ k : Nat, v = (k : Int) := ⟨v.toNat, by omega⟩
    rw [Int.toNat_natCast] at hd ⊢
    have hr0 : s1.getD (k - 1) 0 = 0 := by simpa [downs] using hd
    have hkl : k ≤ t.length - 2 := by omega
    obtain ⟨m, hm⟩ : ∃ m, t.take (t.length - 1) = m := ⟨_, rfl⟩
    have hml : m.length = t.length - 1 := by rw [← hm, List.length_take]; omega
    have htk : t.take k = m.take k := by rw [← hm, List.take_take]; congr 1; omega
    rw [hm] at h1 ⊢
    rw [htk]
    have h1' := h1
    rw [← List.take_append_drop k m] at h1'
    obtain ⟨sp, pp, g1, g2⟩ := go_split h1'
    obtain ⟨q1, q2⟩ := go_len g1
    have hsl : sp.length = k := by rw [List.length_take] at q1; simp at q1; omega
    have hpl : pp.length = k := by rw [List.length_take] at q2; simp at q2; omega
    have hpre := go_prefix g2
    have hlk : (m.take k).length = k := by rw [List.length_take]; omega
    have hTp : Tree (m.take k) sp pp := ⟨g1, go_starts StartsOk.nil g1, by omega, by omega, by omega, by rw [hlk, ← hpre (k - 1) (by omega)]; exact hr0⟩
    have e0 : sp ++ mv sp.length [] = sp := by simp [mv]
    have e1 : pp ++ [] = pp := by simp
    obtain ⟨sq, pq, g3, es, ep⟩ := go_unshift (ns := m.drop k) (st0 := sp) (st := []) (ps0 := pp) (ps := []) hTp.starts StartsOk.nil (by omega) (by rw [e0, e1]; exact g2) (by
      intro j hj1 hj2
      rw [hsl]
      have := hlam (s1.length - 1) j (by omega) (by omega) (by rw [hve]; simp at hj1; omega)
      rwa [hve] at this)
    obtain ⟨q3, q4⟩ := go_len g3
    have hlq : (m.drop k).length = m.length - k := List.length_drop ..
    have hTq : Tree (m.drop k) sq pq := by
      refine ⟨g3, go_starts StartsOk.nil g3, by simpa using q3, by simpa using q4, by omega, ?_⟩
      have h4 := hve
      have e5 : s1.length - 1 = sp.length + ((m.drop k).length - 1) := by omega
      rw [e5, es, mv_get (by simp at q3; omega), hsl] at h4
      omega
    rw [es, ep, two_kids hTp hTq] at hk
    have hwm : weightT m ≤ 3000 := by have := (weight_take t (t.length - 1)).1; rw [hm] at this; omega
    have hwk := weight_take m k
    intro p hpm
    simp only [List.mem_cons, List.not_mem_nil, or_false] at hpm
    rcases hpm with rfl | rfl
    · exact check_part hTp (hk _ (List.mem_cons_self ..)) (by omega)
    · exact check_part hTq (hk _ (List.mem_cons_of_mem _ (List.mem_cons_self ..))) (by omega)
/-- What the parts are. -/
theorem parts_shape {t : List Node} {ls : List (List Node)} (h : partsT t = some ls) : 0 < t.length ∧ ls.length ≤ 2 ∧ (∀ p ∈ ls, 0 < p.length) ∧ ls.flatten ++ [t.getD (t.length - 1) Node.zero] = t := by
  unfold partsT at h
  cases hst : ofT t [] with
  | none => rw [hst] at h; cases h
  | some st =>
    rw [hst] at h
    simp only at h
    by_cases ho : oneB st = false
    · rw [if_pos ho] at h; cases h
    · rw [if_neg ho] at h
      have ho' : oneB st = true := by simpa using ho
      have ho2 := of_decide_eq_true ho'
      have hl := (ofT_ok t [] st starts_nil hst).2
      have hl : st.length = t.length := by simpa using hl
      have hp : 0 < t.length := by omega
      refine ⟨hp, ?_⟩
      obtain ⟨a, ha⟩ : ∃ a, (arityK (t.getD (t.length - 1) Node.zero).kind).getD 0 = a := ⟨_, rfl⟩
      rw [ha] at h
      match a, ha, h with
      | 0, ha, h =>
        cases h
        refine ⟨by simp, (fun p hp => by cases hp), ?_⟩
        have hlast := last_eq hp
        have hst2 := hst
        rw [hlast, ofT_snoc] at hst2
        cases h2 : ofT (t.take (t.length - 1)) [] with
        | none => rw [h2] at hst2; cases hst2
        | some s1 =>
          rw [h2] at hst2
          have hl1 := (ofT_ok _ [] s1 starts_nil h2).2
          rw [List.length_take] at hl1
          cases h3 : arityK (t.getD (t.length - 1) Node.zero).kind with
          | none => simp only [Option.bind_some] at hst2; rw [h3] at hst2; cases hst2
          | some x =>
            rw [h3] at ha
            obtain rfl : x = 0 := ha
            simp only [Option.bind_some] at hst2
            rw [h3] at hst2
            have hst2 : addL s1 0 = some st := hst2
            have e : st = s1 ++ [(s1.length : Int)] := by
              have : addL s1 0 = some (s1 ++ [(s1.length : Int)]) := rfl
              rw [this] at hst2
              exact (Option.some.inj hst2).symm
            have hz := ho2.2
            have hs1 : s1.length = st.length - 1 := by rw [e]; simp
            rw [e] at hz
            have e3 : (s1 ++ [(s1.length : Int)]).length - 1 = s1.length := by simp
            rw [e3, getD_last] at hz
            have : t.length = 1 := by omega
            have e5 : t.take (t.length - 1) = [] := by rw [this]; rfl
            rw [e5] at hlast
            exact hlast.symm
      | 1, ha, h =>
        cases h
        obtain ⟨h2, _⟩ := of_parts hp hst ha (Nat.le_refl _)
        refine ⟨by simp, ?_, ?_⟩
        · intro p hpm
          simp only [List.mem_cons, List.not_mem_nil, or_false] at hpm
          subst hpm
          rw [List.length_take]
          omega
        · simp only [List.flatten_cons, List.flatten_nil, List.append_nil]
          exact (last_eq hp).symm
      | a + 2, ha, h =>
        have ha2 : a = 0 := by
          cases h3 : arityK (t.getD (t.length - 1) Node.zero).kind with
          | none => rw [h3] at ha; cases ha
          | some x =>
            rw [h3] at ha
            have := (arityK_range h3).2.2
            simp only [Option.getD_some] at ha
            omega
        subst ha2
        cases h
        obtain ⟨h2, hc⟩ := of_parts hp hst ha (by omega)
        have hc := hc rfl
        obtain ⟨k, hk⟩ : ∃ k : Nat, st.getD (t.length - 2) 0 = (k : Int) := ⟨(st.getD (t.length - 2) 0).toNat, by omega⟩
        rw [hk, Int.toNat_natCast]
        rw [hk] at hc
        refine ⟨by simp, ?_, ?_⟩
        · intro p hpm
          simp only [List.mem_cons, List.not_mem_nil, or_false] at hpm
          rcases hpm with rfl | rfl
          · rw [List.length_take]; omega
          · rw [List.length_drop, List.length_take]; omega
        · simp only [List.flatten_cons, List.flatten_nil, List.append_nil]
          have htk : t.take k = (t.take (t.length - 1)).take k := by rw [List.take_take]; congr 1; omega
          rw [htk, List.take_append_drop]
          exact (last_eq hp).symm
theorem parts_check {t : List Node} {ls : List (List Node)} (h : partsT t = some ls) (hok : (checkT t).2 = 0) : ∀ p ∈ ls, (checkT p).2 = if wantsK (t.getD (t.length - 1) Node.zero).kind = true then 0 else 121 := by
  obtain ⟨h1, _, hw⟩ := check_ok hok
  have hT := tree_of h1
  have ho := ofT_of_go hT.go
  unfold partsT at h
  rw [ho] at h
  simp only at h
  by_cases hob : oneB (runT t 0 [] []).2.2.1 = false
  · rw [if_pos hob] at h; cases h
  · rw [if_neg hob] at h
    obtain ⟨a, ha⟩ : ∃ a, (arityK (t.getD (t.length - 1) Node.zero).kind).getD 0 = a := ⟨_, rfl⟩
    rw [ha] at h
    match a, ha, h with
    | 0, ha, h =>
      cases h
      intro p hp
      cases hp
    | 1, ha, h =>
      cases h
      intro p hp
      simp only [List.mem_cons, List.not_mem_nil, or_false] at hp
      subst hp
      exact parts_one hT ha hw
    | a + 2, ha, h =>
      have ha2 : a = 0 := by
        cases h3 : arityK (t.getD (t.length - 1) Node.zero).kind with
        | none => rw [h3] at ha; cases ha
        | some x =>
          rw [h3] at ha
          have := (arityK_range h3).2.2
          simp only [Option.getD_some] at ha
          omega
      subst ha2
      cases h
      exact parts_both hT ha hw
end Go.Proofs.Ytedhlofmkehfkaa
