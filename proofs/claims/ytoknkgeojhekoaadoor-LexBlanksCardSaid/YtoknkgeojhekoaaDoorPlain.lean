/- Plain laws of Lex: a token by itself, a blank behind it. -/
import Derived.Test.YtoknkgeojhekoaaDoorTokensW
namespace Go.Proofs.YtoknkgeojhekoaaDoor
open Go.RowKit Go.Shelf
set_option linter.unusedVariables false
set_option linter.unusedSimpArgs false

theorem runN_eq_length {p : Int → Bool} : ∀ {l : List UInt8}, (∀ x ∈ l, p (x.toNat : Int) = true) → runN p l = l.length
  | [], _ => rfl
  | b :: l, h => by
    rw [runN_cons, if_pos (h b (by simp)), runN_eq_length fun x hx => h x (by simp [hx])]
    rfl
theorem run_all {p : Int → Bool} : ∀ (l : List UInt8), ∀ x ∈ l.take (runN p l), p (x.toNat : Int) = true
  | [], x, hx => by simp at hx
  | b :: l, x, hx => by
    rw [runN_cons] at hx
    split at hx
    · rename_i hb
      rw [List.take_succ_cons] at hx
      rcases List.mem_cons.1 hx with rfl | hx
      · exact hb
      · exact run_all l x hx
    · simp at hx
theorem runN_take {p : Int → Bool} (l : List UInt8) : runN p (l.take (runN p l)) = runN p l := by
  rw [runN_eq_length (run_all l), List.length_take]
  have := runN_le p l
  omega
/-- What stops a run of any kind. -/
def Stops (m : List UInt8) : Prop := ∀ c m', m = c :: m' → blankB (c.toNat : Int) = true
theorem stops_nil : Stops [] := fun _ _ h => by cases h
theorem stops_blank {c : UInt8} {m : List UInt8} (h : blankB (c.toNat : Int) = true) : Stops (c :: m) := fun _ _ e => by cases e; exact h
theorem blank_cases {c : Int} (h : blankB c = true) : c = 32 ∨ c = 9 ∨ c = 10 ∨ c = 13 := by
  unfold blankB at h
  simp at h
  omega
theorem blank_not {c : Int} (h : blankB c = true) : sixB c = false ∧ quadB c = false ∧ wordB c = false := by
  rcases blank_cases h with rfl | rfl | rfl | rfl <;> exact ⟨by decide, by decide, by decide⟩
theorem runN_behind {p : Int → Bool} {m : List UInt8} (hp : ∀ c m', m = c :: m' → p (c.toNat : Int) = false) : ∀ l : List UInt8, runN p (l ++ m) = runN p l
  | [] => by
    cases m with
    | nil => rfl
    | cons c m' =>
      show runN p (c :: m') = 0
      rw [runN_cons, if_neg (by rw [hp c m' rfl]; simp)]
  | b :: l => by
    rw [List.cons_append, runN_cons, runN_cons, runN_behind hp l]
theorem take_behind {n : Nat} {l m : List UInt8} (h : n ≤ l.length) : (l ++ m).take n = l.take n := by
  rw [List.take_append_of_le_length h]
theorem signN_behind {l m : List UInt8} (hl : l ≠ []) (hm : Stops m) : signN (l ++ m) = signN l := by
  match l, hl with
  | [b], _ =>
    match m, hm with
    | [], _ => rfl
    | c :: m', hm =>
      have h0 : twos.contains [b, c] = false := by
        have hc := hm c m' rfl
        cases h : twos.contains [b, c] with
        | false => rfl
        | true =>
          have h1 : ∀ x ∈ twos, ∀ y ∈ x.drop 1, blankB (y.toNat : Int) = false := by decide
          have h2 := h1 [b, c] (by simpa using h) c (by simp)
          rw [h2] at hc
          cases hc
      unfold signN
      rw [if_neg (by rw [show List.take 2 ([b] ++ c :: m') = [b, c] from rfl, h0]; simp), if_neg (by
        have : twos.contains (List.take 2 [b]) = false := twos_short (by simp)
        rw [this]; simp)]
      rfl
  | b :: b2 :: l, _ => rfl
theorem tokR_behind {l m : List UInt8} (hl : l ≠ []) (hm : Stops m) : tokR (l ++ m) = tokR l := by
  have h6 : runN sixB (l ++ m) = runN sixB l := runN_behind (fun c m' e => (blank_not (hm c m' e)).1) l
  have hq : runN quadB (l ++ m) = runN quadB l := runN_behind (fun c m' e => (blank_not (hm c m' e)).2.1) l
  have hw : runN wordB (l ++ m) = runN wordB l := runN_behind (fun c m' e => (blank_not (hm c m' e)).2.2) l
  have hh : hdI (l ++ m) = hdI l := by
    cases l with
    | nil => exact absurd rfl hl
    | cons b l => rfl
  unfold tokR figR
  rw [h6, hq, hw, hh, signN_behind hl hm, take_behind (runN_le _ _), take_behind (runN_le _ _), take_behind (runN_le _ _)]
theorem count_none {l : List UInt8} {c : UInt8} {p : Int → Bool} (h : ∀ x ∈ l, p (x.toNat : Int) = true) (hc : p (c.toNat : Int) = false) : l.count c = 0 := by
  rw [List.count_eq_zero]
  intro hm
  have := h c hm
  rw [hc] at this
  cases this
theorem mem_take_of {l : List UInt8} {n : Nat} {x : UInt8} (h : x ∈ l.take n) : x ∈ l := List.mem_of_mem_take h
theorem hdI_take {l : List UInt8} {n : Nat} (h : 1 ≤ n) : hdI (l.take n) = hdI l := by
  cases l with
  | nil => simp
  | cons b l =>
    obtain ⟨k, rfl⟩ : ∃ k, n = k + 1 := ⟨n - 1, by omega⟩
    rfl
theorem six_small {l : List UInt8} {p : Int → Bool} (h : ∀ x ∈ l, p (x.toNat : Int) = true) (hc : p 58 = false) : ¬ 2 ≤ (l.take (runN sixB l)).count 58 := by
  rw [count_none (c := 58) (p := p) (fun x hx => h x (mem_take_of hx)) hc]
  omega
/-- A token's text by itself is that token. -/
theorem tokR_take {l : List UInt8} (hl : l ≠ []) (he : (tokR l).err = 0) : tokR (l.take (tokR l).len) = tokR l := by
  obtain ⟨b, l0, rfl⟩ : ∃ b l0, l = b :: l0 := by
    cases l with
    | nil => exact absurd rfl hl
    | cons b l0 => exact ⟨b, l0, rfl⟩
  have hlen := tokR_len he
  generalize b :: l0 = l at *
  have hlen : 1 ≤ (tokR l).len := hlen.1
  obtain ⟨R, hR⟩ : ∃ R, tokR l = R := ⟨_, rfl⟩
  rw [hR] at hlen he ⊢
  unfold tokR at hR
  by_cases h6 : 2 ≤ (l.take (runN sixB l)).count 58
  · rw [if_pos h6] at hR
    subst hR
    show tokR (l.take (runN sixB l)) = _
    unfold tokR
    rw [runN_take, List.take_take, Nat.min_self, if_pos h6]
  · rw [if_neg h6] at hR
    by_cases hd : digitB (hdI l) = true
    · rw [if_pos hd] at hR
      unfold figR at hR
      by_cases h4 : 0 < (l.take (runN quadB l)).count 46
      · rw [if_pos h4] at hR
        subst hR
        have ha := run_all (p := quadB) l
        have hh : hdI (l.take (runN quadB l)) = hdI l := hdI_take hlen
        show tokR (l.take (runN quadB l)) = _
        unfold tokR
        rw [if_neg (six_small ha (by decide)), hh, if_pos hd]
        unfold figR
        rw [runN_take, List.take_take, Nat.min_self, if_pos h4]
      · rw [if_neg h4] at hR
        cases hn : numL (l.take (runN wordB l)) with
        | none =>
          rw [hn] at hR
          subst hR
          cases he
        | some v =>
          rw [hn] at hR
          have hR : (⟨0, 1, runN wordB l, v⟩ : TR) = R := hR
          subst hR
          have ha := run_all (p := wordB) l
          have hh : hdI (l.take (runN wordB l)) = hdI l := hdI_take hlen
          show tokR (l.take (runN wordB l)) = _
          unfold tokR
          rw [if_neg (six_small ha (by decide)), hh, if_pos hd]
          unfold figR
          rw [if_neg (by rw [count_none (c := 46) (p := wordB) (fun x hx => ha x (mem_take_of hx)) (by decide)]; omega), runN_take, List.take_take, Nat.min_self, hn]
    · rw [if_neg hd] at hR
      by_cases ht : letterB (hdI l) = true
      · rw [if_pos ht] at hR
        subst hR
        have ha := run_all (p := wordB) l
        have hh : hdI (l.take (runN wordB l)) = hdI l := hdI_take hlen
        show tokR (l.take (runN wordB l)) = _
        unfold tokR
        rw [if_neg (six_small ha (by decide)), hh, if_neg hd, if_pos ht, runN_take]
      · rw [if_neg ht] at hR
        by_cases hz : signN l = 0
        · rw [if_pos hz] at hR
          subst hR
          cases he
        · rw [if_neg hz] at hR
          subst hR
          have hh : hdI (l.take (signN l)) = hdI l := hdI_take hlen
          have hs : signN (l.take (signN l)) = signN l ∧ (l.take (signN l)).count 58 ≤ 1 := by
            by_cases h2 : twos.contains (l.take 2) = true
            · have e : signN l = 2 := by unfold signN; rw [if_pos h2]
              rw [e]
              constructor
              · unfold signN
                rw [List.take_take, Nat.min_self, if_pos h2]
              · have h1 : ∀ x ∈ twos, x.count 58 ≤ 1 := by decide
                exact h1 _ (by simpa using h2)
            · have e : signN l = 1 := by
                have h1 := signN_le l
                unfold signN at hz h1 ⊢
                rw [if_neg h2] at hz h1 ⊢
                split at hz
                · rename_i b r
                  split at hz
                  · rename_i ho
                    simp only [ho, if_true]
                  · exact absurd rfl hz
                · exact absurd rfl hz
              rw [e]
              constructor
              · unfold signN at e ⊢
                rw [if_neg h2] at e
                cases l with
                | nil => exact absurd rfl hl
                | cons b r =>
                  rw [if_neg (by
                    have : twos.contains (List.take 2 (List.take 1 (b :: r))) = false := twos_short (by simp)
                    rw [this]; simp)]
                  exact e
              · have := List.count_le_length (l := l.take 1) (a := 58)
                rw [List.length_take] at this
                omega
          show tokR (l.take (signN l)) = _
          unfold tokR
          rw [if_neg (by
            have h1 := hs.2
            have h3 : ((l.take (signN l)).take (runN sixB (l.take (signN l)))).count 58 ≤ (l.take (signN l)).count 58 := List.Sublist.count_le _ (List.take_sublist _ _)
            omega), hh, if_neg hd, if_neg ht, hs.1, if_neg hz]
end Go.Proofs.YtoknkgeojhekoaaDoor
