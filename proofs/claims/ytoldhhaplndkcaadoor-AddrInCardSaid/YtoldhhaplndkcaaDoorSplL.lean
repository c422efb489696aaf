/- Plain laws: a text split at a byte. -/
import Derived.Test.YtoldhhaplndkcaaDoorStrs
import Derived.Lib.Split
namespace Go.Proofs.YtoldhhaplndkcaaDoor
set_option linter.unusedVariables false
set_option linter.unusedSimpArgs false

def splitL (c : UInt8) : List UInt8 → List (List UInt8)
  | [] => [[]]
  | b :: r => if b = c then [] :: splitL c r else match splitL c r with
    | [] => [[b]]
    | x :: xs => (b :: x) :: xs
theorem splitL_ne (c : UInt8) : ∀ l, splitL c l ≠ []
  | [] => by simp [splitL]
  | b :: r => by
    unfold splitL
    split
    · simp
    · split <;> simp
theorem splitL_one {c : UInt8} : ∀ (x : List UInt8), c ∉ x → splitL c x = [x]
  | [], _ => rfl
  | b :: x, h => by
    have hb : ¬ b = c := fun e => h (e ▸ List.mem_cons_self ..)
    unfold splitL
    rw [if_neg hb, splitL_one x fun hm => h (List.mem_cons_of_mem _ hm)]
theorem splitL_at {c : UInt8} : ∀ (x r : List UInt8), c ∉ x → splitL c (x ++ c :: r) = x :: splitL c r
  | [], r, _ => by
    show splitL c (c :: r) = _
    rw [splitL.eq_def]
    exact if_pos rfl
  | b :: x, r, h => by
    have hb : ¬ b = c := fun e => h (e ▸ List.mem_cons_self ..)
    show splitL c (b :: (x ++ c :: r)) = _
    rw [splitL.eq_def]
    simp only [hb, if_false]
    rw [splitL_at x r fun hm => h (List.mem_cons_of_mem _ hm)]
theorem mem_split_first {c : UInt8} : ∀ (l : List UInt8), c ∈ l → ∃ x r, l = x ++ c :: r ∧ c ∉ x
  | [], h => by cases h
  | b :: l, h => by
    by_cases hb : b = c
    · subst hb
      exact ⟨[], l, rfl, by simp⟩
    · obtain ⟨x, r, e, hx⟩ := mem_split_first l (by rcases List.mem_cons.1 h with e | h; exact absurd e.symm hb; exact h)
      exact ⟨b :: x, r, by rw [e]; rfl, fun hm => by rcases List.mem_cons.1 hm with e | hm; exact hb e.symm; exact hx hm⟩
/-- Text parts hold no such byte. -/
theorem splitL_no {c : UInt8} : ∀ (l : List UInt8), ∀ x ∈ splitL c l, c ∉ x
  | [], x, hx => by
    have : x = [] := by simpa [splitL] using hx
    rw [this]; simp
  | b :: l, x, hx => by
    have ih := splitL_no (c := c) l
    unfold splitL at hx
    split at hx
    · rcases List.mem_cons.1 hx with rfl | hx
      · simp
      · exact ih x hx
    · rename_i hb
      split at hx
      · rename_i e; exact absurd e (splitL_ne c l)
      · rename_i y ys e
        rcases List.mem_cons.1 hx with rfl | hx
        · intro hm
          rcases List.mem_cons.1 hm with e2 | hm
          · exact hb e2.symm
          · exact ih y (by rw [e]; exact List.mem_cons_self ..) hm
        · exact ih x (by rw [e]; exact List.mem_cons_of_mem _ hx)
/-- The parts, with the byte between. -/
def joinL (c : UInt8) : List (List UInt8) → List UInt8
  | [] => []
  | [x] => x
  | x :: y :: r => x ++ c :: joinL c (y :: r)
theorem splitL_join {c : UInt8} : ∀ (xs : List (List UInt8)), xs ≠ [] → (∀ x ∈ xs, c ∉ x) → splitL c (joinL c xs) = xs
  | [], h, _ => absurd rfl h
  | [x], _, h => splitL_one x (h x (List.mem_cons_self ..))
  | x :: y :: r, _, h => by
    show splitL c (x ++ c :: joinL c (y :: r)) = _
    rw [splitL_at _ _ (h x (List.mem_cons_self ..)), splitL_join (y :: r) (by simp) fun z hz => h z (List.mem_cons_of_mem _ hz)]
theorem joinL_split {c : UInt8} : ∀ (l : List UInt8), joinL c (splitL c l) = l
  | [] => rfl
  | b :: r => by
    have ih := joinL_split (c := c) r
    unfold splitL
    split
    · rename_i hb
      subst hb
      cases h : splitL b r with
      | nil => exact absurd h (splitL_ne b r)
      | cons y ys =>
        show [] ++ b :: joinL b (y :: ys) = _
        rw [← h, ih]
        rfl
    · cases h : splitL c r with
      | nil => exact absurd h (splitL_ne c r)
      | cons y ys =>
        rw [h] at ih
        show joinL c ((b :: y) :: ys) = _
        cases ys with
        | nil =>
          have ih : y = r := ih
          rw [← ih]
          rfl
        | cons z zs =>
          have ih : y ++ c :: joinL c (z :: zs) = r := ih
          show (b :: y) ++ c :: joinL c (z :: zs) = _
          rw [← ih]
          rfl
theorem splitL_len (c : UInt8) : ∀ l, (splitL c l).length ≤ l.length + 1
  | [] => by simp [splitL]
  | b :: r => by
    have := splitL_len c r
    unfold splitL
    split
    · simp; omega
    · split
      · simp
      · rename_i h; rw [h] at this; simp at this ⊢; omega
theorem index_no {c : UInt8} : ∀ (l : List UInt8), c ∉ l → Lib.index l [c] = -1
  | [], _ => rfl
  | b :: l, h => by
    have hb : ¬ c = b := fun e => h (e ▸ List.mem_cons_self ..)
    rw [Lib.index.eq_def]
    have : ([c] : List UInt8).isPrefixOf (b :: l) = false := by
      show (c == b && ([] : List UInt8).isPrefixOf l) = false
      rw [Bool.and_eq_false_iff]
      exact .inl (beq_eq_false_iff_ne.2 hb)
    simp only [this, Bool.false_eq_true, if_false]
    rw [index_no l fun hm => h (List.mem_cons_of_mem _ hm)]
    rfl
theorem index_at {c : UInt8} : ∀ (x r : List UInt8), c ∉ x → Lib.index (x ++ c :: r) [c] = x.length
  | [], r, _ => by
    show Lib.index (c :: r) [c] = _
    unfold Lib.index
    simp
  | b :: x, r, h => by
    have hb : ¬ c = b := fun e => h (e ▸ List.mem_cons_self ..)
    show Lib.index (b :: (x ++ c :: r)) [c] = _
    rw [Lib.index.eq_def]
    have : ([c] : List UInt8).isPrefixOf (b :: (x ++ c :: r)) = false := by
      show (c == b && ([] : List UInt8).isPrefixOf _) = false
      rw [Bool.and_eq_false_iff]
      exact .inl (beq_eq_false_iff_ne.2 hb)
    simp only [this, Bool.false_eq_true, if_false]
    rw [index_at x r fun hm => h (List.mem_cons_of_mem _ hm)]
    have : (((x.length : Nat) : Int) == -1) = false := by rw [beq_eq_false_iff_ne]; omega
    simp [this]
theorem split_eq (c : UInt8) : ∀ (f : Nat) (l : List UInt8), l.length < f → Lib.splitK [c] 0 (Lib.count l [c]) l = splitL c l
  | 0, _, h => by omega
  | f + 1, l, h => by
    by_cases hm : c ∈ l
    · obtain ⟨x, r, rfl, hx⟩ := mem_split_first l hm
      have hi := index_at x r hx
      rw [Lib.count_hit (by simp) hi, splitL_at x r hx, Nat.add_comm, Lib.splitK]
      have h1 : (Lib.index (x ++ c :: r) [c] == -1) = false := by rw [hi, beq_eq_false_iff_ne]; omega
      rw [h1]
      simp only [Bool.false_eq_true, if_false]
      rw [hi]
      have hd : (x ++ c :: r).drop (((x.length : Nat) : Int).toNat + [c].length) = r := by
        rw [show ((x.length : Nat) : Int).toNat + [c].length = x.length + 1 from rfl, ← List.drop_drop, List.drop_left]
        rfl
      have hd2 : (x ++ c :: r).drop (x.length + [c].length) = r := hd
      rw [hd, hd2, split_eq c f r (by rw [List.length_append, List.length_cons] at h; omega)]
      congr 1
      show List.take (x.length + 0) _ = x
      rw [Nat.add_zero, List.take_left]
    · have hi := index_no l hm
      rw [Lib.count_miss hi, splitL_one l hm]
      rfl
theorem splitB_eq (s sep : ByteArray) (c : UInt8) (hc : sep.data.toList = [c]) : ls (Lib.splitB sep 0 (Lib.countB s sep) s) = splitL c s.data.toList := by
  unfold ls
  rw [Lib.splitB_data, hc]
  have h1 : Lib.countB s sep = Lib.count s.data.toList [c] := by
    unfold Lib.countB
    rw [hc]
  rw [h1]
  exact split_eq c _ _ (Nat.lt_succ_self _)
theorem splitB_small (sep : ByteArray) : ∀ (k : Nat) (s : ByteArray), ∀ x ∈ Lib.splitB sep 0 k s, x.size ≤ s.size
  | 0, s, x, hx => by
    rw [Lib.splitB_zero] at hx
    rw [List.mem_singleton.1 hx]
    exact Nat.le_refl _
  | k + 1, s, x, hx => by
    unfold Lib.splitB at hx
    split at hx
    · rw [List.mem_singleton.1 hx]
      exact Nat.le_refl _
    · rcases List.mem_cons.1 hx with rfl | hx
      · rw [ByteArray.size_extract]; omega
      · have := splitB_small sep k _ x hx
        rw [ByteArray.size_extract] at this
        omega
end Go.Proofs.YtoldhhaplndkcaaDoor
