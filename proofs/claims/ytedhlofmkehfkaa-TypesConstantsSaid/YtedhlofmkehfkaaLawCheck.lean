/- The document's stack of parts: plain. -/
import Derived.Test.YtedhlofmkehfkaaRefD
namespace Go.Proofs.Ytedhlofmkehfkaa
open Go.RowKit Go.Shelf
set_option linter.unusedVariables false
set_option linter.unusedSimpArgs false

def nodeD (n : Node) (kids : List Part) : Int :=
  if unusedB n.kind n = false then 120 else if (madeL n (truthK n.kind) (wantsK n.kind) kids).2 ≠ 0 then (madeL n (truthK n.kind) (wantsK n.kind) kids).2 else rangesT n
/-- The document's way through a list: its place, its error, what is left. -/
def refT : List Node → Int → List Part → Int × Int × List Part
  | [], i, sk => (0, 0, sk)
  | n :: ns, i, sk => match arityK n.kind with
    | none => (i, 120, [])
    | some a => if sk.length < a then (i, 120, [])
      else if nodeD n (sk.drop (sk.length - a)) ≠ 0 then (i, nodeD n (sk.drop (sk.length - a)), [])
      else refT ns (i + 1) (sk.take (sk.length - a) ++ [(madeL n (truthK n.kind) (wantsK n.kind) (sk.drop (sk.length - a))).1])
/-- The stack holds the roots of the trees that stand. -/
structure Rel (st : List Int) (ps : List Part) (sk : List Part) : Prop where
  starts : StartsOk st
  len : ps.length = st.length
  down : downs st sk.length st.length = some 0
  root : ∀ j, j < sk.length → ∃ p : Int, downs st j st.length = some p ∧ 0 < p ∧ sk.getD (sk.length - 1 - j) Part.zero = ps.getD (p.toNat - 1) Part.zero
theorem Rel.nil : Rel [] [] [] := ⟨starts_nil, rfl, rfl, fun j hj => by cases hj⟩
theorem Rel.addL {st : List Int} {ps sk : List Part} (h : Rel st ps sk) (a : Nat) : (a ≤ sk.length → ∃ r, downs st a st.length = some r ∧ Go.Proofs.Ytedhlofmkehfkaa.addL st a = some (st ++ [r])) ∧ (sk.length < a → Go.Proofs.Ytedhlofmkehfkaa.addL st a = none) := by
  constructor
  · intro ha
    obtain ⟨c, hc⟩ : ∃ c, sk.length = a + c := ⟨sk.length - a, by omega⟩
    have hd := h.down
    rw [hc, downs_add] at hd
    cases hr : downs st a st.length with
    | none => rw [hr] at hd; cases hd
    | some r =>
      refine ⟨r, rfl, ?_⟩
      unfold Go.Proofs.Ytedhlofmkehfkaa.addL
      rw [hr]
      rfl
  · intro ha
    obtain ⟨c, rfl⟩ : ∃ c, a = sk.length + (c + 1) := ⟨a - sk.length - 1, by omega⟩
    unfold Go.Proofs.Ytedhlofmkehfkaa.addL
    rw [downs_add, h.down]
    show Option.map _ (downs st (c + 1) 0) = none
    rw [downs_zero]
    rfl
theorem Rel.kids {st : List Int} {ps sk : List Part} (h : Rel st ps sk) {a : Nat} (ha : a ≤ sk.length) (h2 : a ≤ 2) : kidsL a st ps = sk.drop (sk.length - a) := by
  have hg : ∀ i, i < sk.length → sk.drop i = sk.getD i Part.zero :: sk.drop (i + 1) := fun i hi => by
    rw [List.drop_eq_getElem_cons hi]
    simp [List.getD_eq_getElem?_getD, List.getElem?_eq_getElem hi]
  match a, ha, h2 with
  | 0, ha, h2 =>
    rw [Nat.sub_zero, List.drop_length]
    rfl
  | 1, ha, h2 =>
    obtain ⟨p, hp, hp0, he⟩ := h.root 0 (by omega)
    simp only [downs, Option.some.injEq] at hp
    subst hp
    rw [hg _ (by omega), show sk.length - 1 + 1 = sk.length from by omega, List.drop_length]
    rw [Nat.sub_zero] at he
    rw [he]
    unfold kidsL
    rw [if_pos rfl]
    simp
  | 2, ha, h2 =>
    obtain ⟨p, hp, hp0, he⟩ := h.root 0 (by omega)
    obtain ⟨q, hq, hq0, hf⟩ := h.root 1 (by omega)
    simp only [downs, Option.some.injEq] at hp
    subst hp
    rw [downs_succ, if_neg (by omega)] at hq
    have hq : st.getD (((st.length : Nat) : Int).toNat - 1) 0 = q := by simpa [downs] using hq
    have e : ((st.length : Nat) : Int).toNat - 1 = st.length - 1 := by omega
    rw [e] at hq
    rw [hg _ (by omega), hg _ (by omega), show sk.length - 2 + 1 + 1 = sk.length from by omega, List.drop_length]
    rw [show sk.length - 1 - 1 = sk.length - 2 from by omega] at hf
    rw [show sk.length - 2 + 1 = sk.length - 1 - 0 from by omega, hf, he]
    unfold kidsL
    rw [if_neg (by decide), if_pos rfl, hq]
    have e2 : (q - 1).toNat = q.toNat - 1 := by omega
    rw [e2, e]
theorem Rel.step {st : List Int} {ps sk : List Part} (h : Rel st ps sk) {a : Nat} (ha : a ≤ sk.length) {r : Int} (hr : downs st a st.length = some r) (x : Part) : Rel (st ++ [r]) (ps ++ [x]) (sk.take (sk.length - a) ++ [x]) := by
  have hrr := downs_range h.starts a _ r (by omega) (Int.le_refl _) hr
  have hlen : (sk.take (sk.length - a) ++ [x]).length = sk.length - a + 1 := by rw [List.length_append, List.length_take]; simp
  have hst : (((st ++ [r]).length : Nat) : Int) = (st.length : Int) + 1 := by simp
  have one : ∀ j, downs (st ++ [r]) (j + 1) ((st.length : Int) + 1) = downs st j r := fun j => by
    rw [downs_succ, if_neg (by omega)]
    have e3 : ((st.length : Int) + 1).toNat - 1 = st.length := by omega
    rw [e3, getD_last, downs_pre h.starts _ _ hrr.1 hrr.2]
  have sum : ∀ j, downs st j r = downs st (a + j) st.length := fun j => by rw [downs_add, hr]; rfl
  refine ⟨h.starts.snoc hrr.1 hrr.2, by simp [h.len], ?_, ?_⟩
  · rw [hlen, hst, one, sum, show a + (sk.length - a) = sk.length from by omega]
    exact h.down
  · intro j hj
    rw [hlen] at hj ⊢
    rw [hst]
    match j, hj with
    | 0, hj =>
      refine ⟨(st.length : Int) + 1, rfl, by omega, ?_⟩
      have e3 : ((st.length : Int) + 1).toNat - 1 = ps.length := by have := h.len; omega
      have e4 : sk.length - a + 1 - 1 - 0 = (sk.take (sk.length - a)).length := by rw [List.length_take]; omega
      rw [e3, e4]
      simp [List.getD_eq_getElem?_getD]
    | j + 1, hj =>
      obtain ⟨p, hp, hp0, he⟩ := h.root (a + j) (by omega)
      refine ⟨p, by rw [one, sum]; exact hp, hp0, ?_⟩
      have hple := (downs_range h.starts _ _ p (by omega) (Int.le_refl _) hp).2
      have hps := h.len
      have e5 : sk.length - a + 1 - 1 - (j + 1) = sk.length - 1 - (a + j) := by omega
      rw [e5]
      have g1 : (sk.take (sk.length - a) ++ [x]).getD (sk.length - 1 - (a + j)) Part.zero = sk.getD (sk.length - 1 - (a + j)) Part.zero := by
        simp only [List.getD_eq_getElem?_getD]
        rw [List.getElem?_append_left (by rw [List.length_take]; omega), List.getElem?_take, if_pos (by omega)]
      have g2 : (ps ++ [x]).getD (p.toNat - 1) Part.zero = ps.getD (p.toNat - 1) Part.zero := by
        simp only [List.getD_eq_getElem?_getD]
        rw [List.getElem?_append_left (by omega)]
      rw [g1, g2, he]
/-- One step of both. -/
theorem step_rel2 {n : Node} {st : List Int} {ps sk : List Part} (h : Rel st ps sk) : 
    match arityK n.kind with
    | none => (stepT n st ps).1 = 120
    | some a => (sk.length < a → (stepT n st ps).1 = 120) ∧ (a ≤ sk.length → (stepT n st ps).1 = nodeD n (sk.drop (sk.length - a)) ∧ ((stepT n st ps).1 = 0 → Rel (stepT n st ps).2.1 (stepT n st ps).2.2 (sk.take (sk.length - a) ++ [(madeL n (truthK n.kind) (wantsK n.kind) (sk.drop (sk.length - a))).1]))) := by
  cases ha : arityK n.kind with
  | none =>
    unfold stepT
    rw [ha]
  | some a =>
    have h2 := (arityK_range ha).2.2
    refine ⟨fun hl => ?_, fun hl => ?_⟩
    · have := (h.addL a).2 hl
      unfold stepT
      rw [ha]
      simp only [this]
    · obtain ⟨r, hr, hadd⟩ := (h.addL a).1 hl
      have hk := h.kids hl h2
      have hs := h.step hl hr (madeL n (truthK n.kind) (wantsK n.kind) (sk.drop (sk.length - a))).1
      unfold stepT nodeD
      rw [ha]
      simp only [hadd, hk]
      by_cases h1 : unusedB n.kind n = false
      · rw [if_pos h1, if_pos h1]
        exact ⟨rfl, fun e => by cases e⟩
      · rw [if_neg h1, if_neg h1]
        by_cases h3 : (madeL n (truthK n.kind) (wantsK n.kind) (sk.drop (sk.length - a))).2 ≠ 0
        · rw [if_pos h3, if_pos h3]
          exact ⟨rfl, fun e => absurd e h3⟩
        · rw [if_neg h3, if_neg h3]
          unfold rangesT
          by_cases h4 : fitsB n.kind n = false
          · rw [if_pos h4, if_pos h4]
            exact ⟨rfl, fun e => by cases e⟩
          · rw [if_neg h4, if_neg h4]
            by_cases h5 : n.kind = 15 ∧ wholeB n = false
            · rw [if_pos h5, if_pos h5]
              exact ⟨rfl, fun e => by cases e⟩
            · rw [if_neg h5, if_neg h5]
              exact ⟨rfl, fun _ => hs⟩
/-- Both ways through a list. -/
theorem run_ref : ∀ (ns : List Node) (i : Int) (st : List Int) (ps sk : List Part), Rel st ps sk →
    ((refT ns i sk).2.1 ≠ 0 → (runT ns i st ps).1 = (refT ns i sk).1 ∧ (runT ns i st ps).2.1 = (refT ns i sk).2.1) ∧
    ((refT ns i sk).2.1 = 0 → ∃ st2 ps2, Rel st2 ps2 (refT ns i sk).2.2 ∧ st2.length = st.length + ns.length ∧ runT ns i st ps = if oneB st2 then (0, 0, st2, ps2) else (i + ns.length, 120, st2, ps2))
  | [], i, st, ps, sk, h => ⟨fun e => absurd rfl e, fun _ => ⟨st, ps, h, by simp, by simp [runT]⟩⟩
  | n :: ns, i, st, ps, sk, h => by
    have hs := step_rel2 (n := n) h
    rw [runT_cons]
    unfold refT
    cases ha : arityK n.kind with
    | none =>
      rw [ha] at hs
      have hs : (stepT n st ps).1 = 120 := hs
      rw [if_pos (by rw [hs]; decide), hs]
      exact ⟨fun _ => ⟨rfl, rfl⟩, fun e => by cases e⟩
    | some a =>
      rw [ha] at hs
      obtain ⟨h1, h2⟩ := hs
      simp only
      by_cases hl : sk.length < a
      · rw [if_pos hl, if_pos (by rw [h1 hl]; decide), h1 hl]
        exact ⟨fun _ => ⟨rfl, rfl⟩, fun e => by cases e⟩
      · rw [if_neg hl]
        obtain ⟨h3, h4⟩ := h2 (by omega)
        by_cases hc : nodeD n (sk.drop (sk.length - a)) ≠ 0
        · rw [if_pos hc, if_pos (by rw [h3]; exact hc), h3]
          exact ⟨fun _ => ⟨rfl, rfl⟩, fun e => absurd e hc⟩
        · rw [if_neg hc, if_neg (by rw [h3]; exact hc)]
          have hc0 : (stepT n st ps).1 = 0 := by rw [h3]; exact Decidable.not_not.1 hc
          obtain ⟨q1, q2⟩ := run_ref ns (i + 1) _ _ _ (h4 hc0)
          refine ⟨q1, fun e => ?_⟩
          obtain ⟨st2, ps2, g1, g2, g3⟩ := q2 e
          refine ⟨st2, ps2, g1, ?_, ?_⟩
          · rw [g2, stepT_len hc0, List.length_cons]; omega
          · rw [g3, List.length_cons]
            congr 2
            omega
def refCheckT (ns : List Node) : Int × Int :=
  if (refT ns 0 []).2.1 ≠ 0 then ((refT ns 0 []).1, (refT ns 0 []).2.1)
  else if (refT ns 0 []).2.2.length ≠ 1 then ((ns.length : Int), 120)
  else if ((refT ns 0 []).2.2.getD 0 Part.zero).truth = false then ((ns.length : Int) - 1, 121)
  else weighT ns 0 0
def refConstT (ns : List Node) : Int × Bool :=
  if (refT ns 0 []).2.1 ≠ 0 ∨ (refT ns 0 []).2.2.length ≠ 1 ∨ ((refT ns 0 []).2.2.getD 0 Part.zero).truth = true ∨ ((refT ns 0 []).2.2.getD 0 Part.zero).constant = false then (0, false)
  else (((refT ns 0 []).2.2.getD 0 Part.zero).value, true)
theorem ref_check (ns : List Node) : refCheckT ns = checkT ns := by
  obtain ⟨h1, h2⟩ := run_ref ns 0 [] [] [] Rel.nil
  unfold refCheckT checkT
  by_cases hc : (refT ns 0 []).2.1 ≠ 0
  · obtain ⟨e1, e2⟩ := h1 hc
    rw [if_pos hc, e1, e2, if_pos hc]
  · rw [if_neg hc]
    obtain ⟨st2, ps2, hR, hl, hrun⟩ := h2 (Decidable.not_not.1 hc)
    rw [hrun]
    have ho := tree_one hR.down
    by_cases hsk : (refT ns 0 []).2.2.length = 1
    · rw [if_neg (by simp [hsk])]
      rw [ho, decide_eq_true hsk]
      have hroot : (refT ns 0 []).2.2.getD 0 Part.zero = ps2.getD (ns.length - 1) Part.zero := by
        obtain ⟨p, hp, hp0, he⟩ := hR.root 0 (by omega)
        simp only [downs, Option.some.injEq] at hp
        subst hp
        rw [hsk] at he
        rw [he]
        congr 1
        simp at hl
        omega
      rw [hroot]
      rfl
    · rw [if_pos hsk, ho, decide_eq_false hsk]
      simp
/-- What is known of each part: a part that is no constant is 0, a constant is no truth. -/
def PInv (p : Part) : Prop := isU32 p.value ∧ (p.constant = false → p.value = 0) ∧ (p.constant = true → p.truth = false)
theorem PInv.zero : PInv Part.zero := ⟨⟨by decide, by decide⟩, fun _ => rfl, fun h => by cases h⟩
theorem getD_inv {ps : List Part} (h : ∀ p ∈ ps, PInv p) (i : Nat) : PInv (ps.getD i Part.zero) := by
  rw [List.getD_eq_getElem?_getD]
  cases hg : ps[i]? with
  | none => exact PInv.zero
  | some p => exact h p (List.mem_of_getElem? hg)
theorem made_inv {n : Node} {w : Bool} {kids : List Part} (hk : ∀ p ∈ kids, PInv p) (hn : isU32 n.n) : PInv (madeL n (truthK n.kind) w kids).1 := by
  refine ⟨made_u32 (fun p hp => (hk p hp).1) hn, ?_, ?_⟩
  · intro hc
    unfold madeL at hc ⊢
    by_cases h0 : kidsBad w kids = true
    · rw [if_pos h0] at hc ⊢; rfl
    · rw [if_neg h0] at hc ⊢
      by_cases h1 : n.kind = 1
      · rw [if_pos h1] at hc; cases hc
      · rw [if_neg h1] at hc ⊢
        by_cases h5 : n.kind = 5
        · rw [if_pos h5] at hc ⊢
          have hc : (kids.getD 0 Part.zero).constant = false := hc
          have := (getD_inv hk 0).2.1 hc
          show -(kids.getD 0 Part.zero).value % 4294967296 = 0
          rw [this]
          rfl
        · rw [if_neg h5] at hc ⊢
          by_cases h4 : n.kind = 4
          · rw [if_pos h4] at hc ⊢
            by_cases h6 : (n.op = 4 ∨ n.op = 5) ∧ (kids.getD 1 Part.zero).constant = true ∧ (kids.getD 1 Part.zero).value = 0
            · rw [if_pos h6]
            · rw [if_neg h6] at hc ⊢
              by_cases h7 : (kids.getD 0 Part.zero).constant = true ∧ (kids.getD 1 Part.zero).constant = true
              · rw [if_pos h7] at hc; cases hc
              · rw [if_neg h7]
          · rw [if_neg h4]
  · intro hc
    unfold madeL at hc ⊢
    by_cases h0 : kidsBad w kids = true
    · rw [if_pos h0]; rfl
    · rw [if_neg h0] at hc ⊢
      by_cases h1 : n.kind = 1
      · rw [if_pos h1, h1]; rfl
      · rw [if_neg h1] at hc ⊢
        by_cases h5 : n.kind = 5
        · rw [if_pos h5, h5]; rfl
        · rw [if_neg h5] at hc ⊢
          by_cases h4 : n.kind = 4
          · rw [if_pos h4]
            have ht : truthK n.kind = false := by rw [h4]; rfl
            split
            · exact ht
            · split <;> exact ht
          · rw [if_neg h4] at hc; cases hc
theorem refT_inv : ∀ (ns : List Node) (i : Int) (sk : List Part), (∀ n ∈ ns, isU32 n.n) → (∀ p ∈ sk, PInv p) → ∀ p ∈ (refT ns i sk).2.2, PInv p
  | [], i, sk, hn, hs => hs
  | n :: ns, i, sk, hn, hs => by
    unfold refT
    cases ha : arityK n.kind with
    | none => intro p hp; cases hp
    | some a =>
      simp only
      by_cases hl : sk.length < a
      · rw [if_pos hl]; intro p hp; cases hp
      · rw [if_neg hl]
        by_cases hc : nodeD n (sk.drop (sk.length - a)) ≠ 0
        · rw [if_pos hc]; intro p hp; cases hp
        · rw [if_neg hc]
          refine refT_inv ns _ _ (fun m hm => hn m (List.mem_cons_of_mem _ hm)) fun p hp => ?_
          rcases List.mem_append.1 hp with hp | hp
          · exact hs p (List.mem_of_mem_take hp)
          · have hp : p = _ := List.mem_singleton.1 hp
            rw [hp]
            exact made_inv (fun q hq => hs q (List.mem_of_mem_drop hq)) (hn n (List.mem_cons_self ..))
theorem ref_const (ns : List Node) (hn : ∀ n ∈ ns, isU32 n.n) : refConstT ns = constT ns := by
  obtain ⟨h1, h2⟩ := run_ref ns 0 [] [] [] Rel.nil
  have hinv := refT_inv ns 0 [] hn (fun p hp => by cases hp)
  unfold refConstT constT
  by_cases hc : (refT ns 0 []).2.1 ≠ 0
  · obtain ⟨e1, e2⟩ := h1 hc
    rw [if_pos (.inl hc), e2, if_pos hc]
  · obtain ⟨st2, ps2, hR, hl, hrun⟩ := h2 (Decidable.not_not.1 hc)
    rw [hrun]
    have ho := tree_one hR.down
    by_cases hsk : (refT ns 0 []).2.2.length = 1
    · rw [ho, decide_eq_true hsk]
      have hroot : (refT ns 0 []).2.2.getD 0 Part.zero = ps2.getD (ns.length - 1) Part.zero := by
        obtain ⟨p, hp, hp0, he⟩ := hR.root 0 (by omega)
        simp only [downs, Option.some.injEq] at hp
        subst hp
        rw [hsk] at he
        rw [he]
        congr 1
        simp at hl
        omega
      have hi := getD_inv hinv 0
      rw [hroot] at hi ⊢
      obtain ⟨q, hq⟩ : ∃ q, ps2.getD (ns.length - 1) Part.zero = q := ⟨_, rfl⟩
      rw [hq] at hi ⊢
      have hR2 : (if (if (true : Bool) = true then ((0 : Int), (0 : Int), st2, ps2) else (0 + (ns.length : Int), 120, st2, ps2)).2.1 ≠ 0 then ((0 : Int), false)
          else if ((if (true : Bool) = true then ((0 : Int), (0 : Int), st2, ps2) else (0 + (ns.length : Int), 120, st2, ps2)).2.2.2.getD (ns.length - 1) Part.zero).constant = false then (0, false)
          else (((if (true : Bool) = true then ((0 : Int), (0 : Int), st2, ps2) else (0 + (ns.length : Int), 120, st2, ps2)).2.2.2.getD (ns.length - 1) Part.zero).value, true)) = if q.constant = false then ((0 : Int), false) else (q.value, true) := by
        rw [if_pos rfl, if_neg (fun h => h rfl), hq]
      refine Eq.trans ?_ hR2.symm
      by_cases hcst : q.constant = false
      · rw [if_pos (.inr (.inr (.inr hcst))), if_pos hcst]
      · have ht := hi.2.2 (by simpa using hcst)
        rw [if_neg hcst, if_neg]
        intro h
        rcases h with h | h | h | h
        · exact hc h
        · exact h hsk
        · rw [ht] at h; cases h
        · exact hcst h
    · rw [if_pos (.inr (.inl hsk)), ho, decide_eq_false hsk]
      simp
end Go.Proofs.Ytedhlofmkehfkaa
