/- The document's own way to a tree's parts: plain. -/
import Derived.Test.YtedhlofmkehfkaaLawWhole
namespace Go.Proofs.Ytedhlofmkehfkaa
open Go.RowKit Go.Shelf
set_option linter.unusedVariables false
set_option linter.unusedSimpArgs false

def arI (k : Int) : Int := match arityK k with
  | some a => (a : Int)
  | none => -1
theorem arI_some {k : Int} {a : Nat} (h : arityK k = some a) : arI k = a := by simp [arI, h]
theorem arI_none {k : Int} (h : arityK k = none) : arI k = -1 := by simp [arI, h]
theorem arI_range (k : Int) : -1 ≤ arI k ∧ arI k ≤ 2 := by
  cases h : arityK k with
  | none => rw [arI_none h]; omega
  | some a => have := (arityK_range h).2.2; rw [arI_some h]; omega
/-- How many trees are left behind each node. -/
def leftT : List Node → Int → Option Int
  | [], l => some l
  | n :: ns, l => if arI n.kind < 0 ∨ arI n.kind > l then none else leftT ns (l - arI n.kind + 1)
def treeB (ns : List Node) : Bool := decide (leftT ns 0 = some 1)
/-- Where the tree whose root lies ahead of a place begins. -/
def begT (ns : List Node) : Nat → Int → Nat
  | 0, _ => 0
  | i + 1, need => if need - 1 + arI (ns.getD i Node.zero).kind = 0 then i else begT ns i (need - 1 + arI (ns.getD i Node.zero).kind)
theorem begT_le (ns : List Node) : ∀ (i : Nat) (need : Int), begT ns i need ≤ i
  | 0, _ => Nat.le_refl _
  | i + 1, need => by
    unfold begT
    split
    · omega
    · have := begT_le ns i (need - 1 + arI (ns.getD i Node.zero).kind)
      omega
def refPartsT (ns : List Node) : Option (List (List Node)) :=
  if treeB ns = false then none
  else if arI (ns.getD (ns.length - 1) Node.zero).kind = 0 then some []
  else if arI (ns.getD (ns.length - 1) Node.zero).kind = 1 then some [(ns.take (ns.length - 1)).drop (begT ns (ns.length - 1) 1)]
  else some [ns.take (begT ns (ns.length - 1) 1), (ns.take (ns.length - 1)).drop (begT ns (ns.length - 1) 1)]
theorem downs_succ (st : List Int) (k : Nat) (at_ : Int) : downs st (k + 1) at_ = if at_ = 0 then none else downs st k (st.getD (at_.toNat - 1) 0) := rfl
theorem downs_add (st : List Int) : ∀ (k m : Nat) (at_ : Int), downs st (k + m) at_ = (downs st k at_).bind fun r => downs st m r
  | 0, m, at_ => by rw [Nat.zero_add]; rfl
  | k + 1, m, at_ => by
    rw [Nat.add_right_comm, downs_succ, downs_succ]
    by_cases hz : at_ = 0
    · rw [if_pos hz, if_pos hz]; rfl
    · rw [if_neg hz, if_neg hz]
      exact downs_add st k m _
theorem downs_zero (st : List Int) : ∀ (m : Nat), downs st (m + 1) 0 = none := fun m => by
  unfold downs
  rw [if_pos rfl]
/-- The way down sees what lies ahead alone. -/
theorem downs_pre {st : List Int} {r : Int} (hs : StartsOk st) : ∀ (k : Nat) (at_ : Int), 0 ≤ at_ → at_ ≤ st.length → downs (st ++ [r]) k at_ = downs st k at_
  | 0, at_, h0, h1 => rfl
  | k + 1, at_, h0, h1 => by
    unfold downs
    by_cases hz : at_ = 0
    · rw [if_pos hz, if_pos hz]
    · rw [if_neg hz, if_neg hz]
      have hi : at_.toNat - 1 < st.length := by omega
      rw [getD_snoc hi]
      have hb := hs _ hi
      exact downs_pre hs k _ hb.1 (by omega)
/-- Each start is where the way down leads. -/
def Sts (ns : List Node) (st : List Int) : Prop := ∀ j, j < ns.length → ∃ a, arityK (ns.getD j Node.zero).kind = some a ∧ downs st a (j : Int) = some (st.getD j 0)
/-- One node more. -/
theorem ofT_step {ns : List Node} {n : Node} {st : List Int} (h : ofT (ns ++ [n]) [] = some st) : ∃ st1 a r, ofT ns [] = some st1 ∧ arityK n.kind = some a ∧ downs st1 a st1.length = some r ∧ st = st1 ++ [r] := by
  rw [ofT_snoc] at h
  cases h1 : ofT ns [] with
  | none => rw [h1] at h; cases h
  | some st1 =>
    rw [h1] at h
    cases h2 : arityK n.kind with
    | none => rw [h2] at h; cases h
    | some a =>
      rw [h2] at h
      have h : addL st1 a = some st := h
      unfold addL at h
      cases hd : downs st1 a st1.length with
      | none => rw [hd] at h; cases h
      | some r =>
        rw [hd] at h
        exact ⟨st1, a, r, rfl, rfl, hd, (Option.some.inj h).symm⟩
theorem sts_of : ∀ (k : Nat) (ns : List Node) (st : List Int), ns.length = k → ofT ns [] = some st → Sts ns st
  | 0, ns, st, hk, h => fun j hj => by omega
  | k + 1, ns, st, hk, h => by
    have hl := last_eq (ns := ns) (by omega)
    obtain ⟨n, hn⟩ : ∃ n, ns.getD (ns.length - 1) Node.zero = n := ⟨_, rfl⟩
    rw [hn] at hl
    obtain ⟨m, hm⟩ : ∃ m, ns.take (ns.length - 1) = m := ⟨_, rfl⟩
    rw [hm] at hl
    have hml : m.length = k := by rw [← hm, List.length_take]; omega
    subst hl
    obtain ⟨st1, a, r, h1, ha, hd, rfl⟩ := ofT_step h
    obtain ⟨hs1, hl1⟩ := ofT_ok _ _ _ starts_nil h1
    have hl1 : st1.length = m.length := by simpa using hl1
    have ih := sts_of k m st1 hml h1
    intro j hj
    rw [List.length_append, List.length_cons, List.length_nil] at hj
    by_cases hjm : j < m.length
    · obtain ⟨a2, h2, h3⟩ := ih j hjm
      refine ⟨a2, ?_, ?_⟩
      · have e : (m ++ [n]).getD j Node.zero = m.getD j Node.zero := by
          simp only [List.getD_eq_getElem?_getD]
          rw [List.getElem?_append_left hjm]
        rw [e]
        exact h2
      · rw [getD_snoc (by omega), downs_pre hs1 _ _ (by omega) (by omega)]
        exact h3
    · have : j = m.length := by omega
      subst this
      refine ⟨a, ?_, ?_⟩
      · have e : (m ++ [n]).getD m.length Node.zero = n := by simp [List.getD_eq_getElem?_getD]
        rw [e]
        exact ha
      · rw [← hl1, getD_last, downs_pre hs1 _ _ (by omega) (by omega)]
        exact hd
/-- Going back from a place: the way down. -/
theorem beg_downs {ns : List Node} {st : List Int} (hS : Sts ns st) (hs : StartsOk st) (hl : st.length = ns.length) : ∀ (i : Nat) (a : Nat) (r : Int), i ≤ ns.length → 1 ≤ a → downs st a (i : Int) = some r → (begT ns i (a : Int) : Int) = r
  | 0, a, r, hi, ha, h => by
    obtain ⟨b, rfl⟩ : ∃ b, a = b + 1 := ⟨a - 1, by omega⟩
    rw [show ((0 : Nat) : Int) = 0 from rfl, downs_zero] at h
    cases h
  | i + 1, a, r, hi, ha, h => by
    obtain ⟨b, rfl⟩ : ∃ b, a = b + 1 := ⟨a - 1, by omega⟩
    obtain ⟨k, hk, hd⟩ := hS i (by omega)
    unfold downs at h
    rw [if_neg (by omega)] at h
    have e : ((i + 1 : Nat) : Int).toNat - 1 = i := by omega
    rw [e] at h
    have h2 : downs st (k + b) (i : Int) = some r := by
      rw [downs_add, hd]
      exact h
    unfold begT
    rw [arI_some hk]
    by_cases hz : (((b + 1 : Nat) : Int) - 1 + (k : Int)) = 0
    · rw [if_pos hz]
      have hk0 : k = 0 := by omega
      have hb0 : b = 0 := by omega
      subst hk0 hb0
      simp only [downs, Option.some.injEq] at h2
      exact h2
    · rw [if_neg hz]
      have e2 : (((b + 1 : Nat) : Int) - 1 + (k : Int)) = ((k + b : Nat) : Int) := by omega
      rw [e2]
      exact beg_downs hS hs hl i (k + b) r (by omega) (by omega) h2
/-- How many trees are left, and where each begins, go together. -/
theorem left_of : ∀ (ns : List Node) (st : List Int) (l : Nat), StartsOk st → downs st l st.length = some 0 →
    match ofT ns st with
    | none => leftT ns l = none
    | some st2 => ∃ l2 : Nat, leftT ns l = some (l2 : Int) ∧ downs st2 l2 st2.length = some 0
  | [], st, l, hs, hd => ⟨l, rfl, hd⟩
  | n :: ns, st, l, hs, hd => by
    simp only [ofT]
    unfold leftT
    cases ha : arityK n.kind with
    | none =>
      simp only
      rw [arI_none ha, if_pos (.inl (by omega))]
    | some a =>
      simp only
      rw [arI_some ha]
      by_cases hal : (a : Int) > (l : Int)
      · rw [if_pos (.inr hal)]
        have hn : addL st a = none := by
          obtain ⟨c, rfl⟩ : ∃ c, a = l + (c + 1) := ⟨a - l - 1, by omega⟩
          unfold addL
          rw [downs_add, hd]
          show Option.map _ (downs st (c + 1) 0) = none
          rw [downs_zero]
          rfl
        rw [hn]
      · rw [if_neg (by omega)]
        obtain ⟨c, rfl⟩ : ∃ c, l = a + c := ⟨l - a, by omega⟩
        rw [downs_add] at hd
        cases hr : downs st a st.length with
        | none => rw [hr] at hd; cases hd
        | some r =>
          rw [hr] at hd
          have hd : downs st c r = some 0 := hd
          have hadd : addL st a = some (st ++ [r]) := by unfold addL; rw [hr]; rfl
          rw [hadd]
          have hrr := downs_range hs a _ r (by omega) (Int.le_refl _) hr
          have e : ((a + c : Nat) : Int) - (a : Int) + 1 = ((c + 1 : Nat) : Int) := by omega
          rw [e]
          refine left_of ns (st ++ [r]) (c + 1) (hs.snoc hrr.1 hrr.2) ?_
          have e2 : (((st ++ [r]).length : Nat) : Int) = (st.length : Int) + 1 := by simp
          rw [e2]
          unfold downs
          rw [if_neg (by omega)]
          have e3 : ((st.length : Int) + 1).toNat - 1 = st.length := by omega
          rw [e3, getD_last, downs_pre hs _ _ hrr.1 hrr.2]
          exact hd
theorem tree_one {st : List Int} {l : Nat} (h : downs st l st.length = some 0) : oneB st = decide (l = 1) := by
  unfold oneB
  by_cases hl : l = 1
  · subst hl
    have hp := downs_one h
    unfold downs at h
    rw [if_neg (by omega)] at h
    have e : ((st.length : Nat) : Int).toNat - 1 = st.length - 1 := by omega
    rw [e] at h
    have h0 : st.getD (st.length - 1) 0 = 0 := by simpa [downs] using h
    rw [decide_eq_true rfl]
    exact decide_eq_true ⟨hp, h0⟩
  · rw [decide_eq_false hl]
    refine decide_eq_false fun hh => ?_
    obtain ⟨hp, h0⟩ := hh
    match l, hl, h with
    | 0, _, h =>
      simp only [downs, Option.some.injEq] at h
      omega
    | l + 2, _, h =>
      unfold downs at h
      rw [if_neg (by omega)] at h
      have e : ((st.length : Nat) : Int).toNat - 1 = st.length - 1 := by omega
      rw [e, h0, downs_zero] at h
      cases h
theorem treeB_of (ns : List Node) : treeB ns = match ofT ns [] with
    | none => false
    | some st => oneB st := by
  have h := left_of ns [] 0 starts_nil rfl
  unfold treeB
  cases ho : ofT ns [] with
  | none =>
    rw [ho] at h
    have h : leftT ns 0 = none := h
    rw [h]
    rfl
  | some st =>
    rw [ho] at h
    obtain ⟨l2, h1, h2⟩ := h
    have h1 : leftT ns 0 = some (l2 : Int) := h1
    simp only
    rw [h1, tree_one h2]
    by_cases hl : l2 = 1
    · subst hl; rfl
    · rw [decide_eq_false hl]
      refine decide_eq_false fun hh => ?_
      have := Option.some.inj hh
      omega
theorem ref_parts (ns : List Node) : refPartsT ns = partsT ns := by
  unfold refPartsT partsT
  rw [treeB_of]
  cases ho : ofT ns [] with
  | none => rfl
  | some st =>
    simp only
    by_cases h1 : oneB st = false
    · rw [if_pos h1, if_pos h1]
    · rw [if_neg h1, if_neg h1]
      have h1' : oneB st = true := by simpa using h1
      obtain ⟨hs, hl⟩ := ofT_ok ns [] st starts_nil ho
      have hl : st.length = ns.length := by simpa using hl
      obtain ⟨hp, hz⟩ := of_decide_eq_true h1'
      have hS := sts_of ns.length ns st rfl ho
      obtain ⟨a, ha, hd⟩ := hS (ns.length - 1) (by omega)
      rw [arI_some ha, ha]
      rw [← hl, hz] at hd
      simp only [Option.getD_some]
      have har := (arityK_range ha).2.2
      match a, ha, hd, har with
      | 0, ha, hd, har => rfl
      | 1, ha, hd, har =>
        rw [if_neg (by decide), if_pos (by decide)]
        have hb := beg_downs hS hs hl (ns.length - 1) 1 0 (by omega) (Nat.le_refl _) (by rw [← hl]; exact hd)
        have hb : begT ns (ns.length - 1) 1 = 0 := by
          have : ((begT ns (ns.length - 1) ((1 : Nat) : Int) : Nat) : Int) = 0 := hb
          have e : ((1 : Nat) : Int) = 1 := rfl
          rw [e] at this
          omega
        rw [hb]
        rfl
      | 2, ha, hd, har =>
        rw [if_neg (by decide), if_neg (by decide)]
        have h2 := hd
        unfold downs at h2
        by_cases hz2 : ((st.length - 1 : Nat) : Int) = 0
        · rw [if_pos hz2] at h2; cases h2
        rw [if_neg hz2] at h2
        have e : ((st.length - 1 : Nat) : Int).toNat - 1 = ns.length - 2 := by omega
        have hd1 : downs st 1 ((ns.length - 1 : Nat) : Int) = some (st.getD (ns.length - 2) 0) := by
          unfold downs
          rw [if_neg (by omega)]
          have e : ((ns.length - 1 : Nat) : Int).toNat - 1 = ns.length - 2 := by omega
          rw [e]
          rfl
        have hb := beg_downs hS hs hl (ns.length - 1) 1 _ (by omega) (Nat.le_refl _) hd1
        have hb : begT ns (ns.length - 1) 1 = (st.getD (ns.length - 2) 0).toNat := by
          have e : ((1 : Nat) : Int) = 1 := rfl
          rw [e] at hb
          omega
        rw [hb]
        rfl
end Go.Proofs.Ytedhlofmkehfkaa
