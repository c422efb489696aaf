/- Numbers' texts: plain laws. -/
import Derived.Test.YtoknkgeojhekoaaDoorBytesW
namespace Go.Proofs.YtoknkgeojhekoaaDoor
open Go.RowKit Go.Shelf
set_option linter.unusedVariables false
set_option linter.unusedSimpArgs false

def baseN (h : Bool) : Nat := if h then 16 else 10
def chr (d : Nat) : UInt8 := if d < 10 then UInt8.ofNat (48 + d) else UInt8.ofNat (87 + d)
/-- A number's digits; of 0 none. -/
def digs (h : Bool) : Nat → Nat → List UInt8
  | 0, _ => []
  | f + 1, n => if n = 0 then [] else digs h f (n / baseN h) ++ [chr (n % baseN h)]
def digs1 (h : Bool) (f n : Nat) : List UInt8 := if n = 0 then [48] else digs h f n
def decL (n : Nat) : List UInt8 := digs1 false 40 n
def hexL (n : Nat) : List UInt8 := 48 :: 120 :: digs1 true 40 n
theorem chr_nat {d : Nat} (h : d < 16) : (chr d).toNat = if d < 10 then 48 + d else 87 + d := by
  unfold chr
  split
  · rw [UInt8.toNat_ofNat_of_lt' (by show 48 + d < 256; omega)]
  · rw [UInt8.toNat_ofNat_of_lt' (by show 87 + d < 256; omega)]
theorem base_pos (h : Bool) : 2 ≤ baseN h ∧ baseN h ≤ 16 := by cases h <;> decide
theorem base_int (h : Bool) : baseI h = (baseN h : Int) := by cases h <;> rfl
theorem dig_chr {h : Bool} {d : Nat} (hd : d < baseN h) : dig h ((chr d).toNat : Int) = d := by
  have hb := base_pos h
  rw [chr_nat (by omega)]
  cases h with
  | false =>
    have hd : d < 10 := hd
    rw [if_pos hd]
    unfold dig digitB
    simp
    omega
  | true =>
    have hd : d < 16 := hd
    by_cases h10 : d < 10
    · rw [if_pos h10]
      unfold dig digitV digitB
      simp
      omega
    · rw [if_neg h10]
      unfold dig digitV digitB
      simp
      rw [if_neg (by omega), if_pos (by omega)]
      omega
theorem word_chr {d : Nat} (hd : d < 16) : wordB ((chr d).toNat : Int) = true := by
  rw [chr_nat hd]
  unfold wordB digitB letterB
  split <;> simp <;> omega
theorem chr_digit {d : Nat} (hd : d < 10) : digitB ((chr d).toNat : Int) = true := by
  rw [chr_nat (by omega), if_pos hd]
  unfold digitB
  simp
  omega
theorem digs_word (h : Bool) : ∀ (f n : Nat), ∀ x ∈ digs h f n, wordB (x.toNat : Int) = true ∧ (h = false → digitB (x.toNat : Int) = true)
  | 0, n, x, hx => by cases hx
  | f + 1, n, x, hx => by
    unfold digs at hx
    split at hx
    · cases hx
    · rcases List.mem_append.1 hx with hx | hx
      · exact digs_word h f _ x hx
      · have hx := List.mem_singleton.1 hx
        subst hx
        have hb := base_pos h
        have hm := Nat.mod_lt n (show baseN h > 0 by omega)
        refine ⟨word_chr (by omega), fun e => ?_⟩
        subst e
        exact chr_digit hm
theorem digs1_word (h : Bool) (f n : Nat) : ∀ x ∈ digs1 h f n, wordB (x.toNat : Int) = true ∧ (h = false → digitB (x.toNat : Int) = true) := by
  unfold digs1
  split
  · intro x hx
    have hx := List.mem_singleton.1 hx
    subst hx
    exact ⟨by decide, fun _ => by decide⟩
  · exact digs_word h f n
theorem digs_val (h : Bool) : ∀ (f n : Nat) (t : List UInt8), n < 2 ^ f → valL h (digs h f n ++ t) 0 = if n ≤ 4294967295 then valL h t n else none
  | 0, n, t, hn => by
    have : n = 0 := by simpa using hn
    subst this
    rfl
  | f + 1, n, t, hn => by
    unfold digs
    split
    · rename_i h0
      subst h0
      rfl
    · rename_i h0
      have hb := base_pos h
      have hdiv : n / baseN h < 2 ^ f := by
        rw [Nat.div_lt_iff_lt_mul (by omega)]
        have : 2 ^ f * 2 ≤ 2 ^ f * baseN h := Nat.mul_le_mul_left _ hb.1
        rw [Nat.pow_succ] at hn
        omega
      rw [List.append_assoc, digs_val h f _ _ hdiv]
      have hm := Nat.mod_lt n (show baseN h > 0 by omega)
      have hdm := Nat.div_add_mod n (baseN h)
      have hle : n / baseN h ≤ n := Nat.div_le_self _ _
      show (if n / baseN h ≤ 4294967295 then valL h (chr (n % baseN h) :: t) ((n / baseN h : Nat) : Int) else none) = _
      have hv : ((n / baseN h : Nat) : Int) * baseI h + ((n % baseN h : Nat) : Int) = (n : Int) := by
        rw [base_int]
        have : ((n / baseN h * baseN h + n % baseN h : Nat) : Int) = (n : Int) := by rw [Nat.mul_comm, hdm]
        rw [← this]
        push_cast
        rfl
      split
      · conv => lhs; unfold valL
        rw [dig_chr hm, if_neg (by omega), hv]
        split
        · rw [if_neg (by omega)]
        · rw [if_pos (by omega)]
      · rw [if_neg (by omega)]
theorem digs1_val (h : Bool) (n : Nat) (t : List UInt8) (hn : n < 2 ^ 40) : valL h (digs1 h 40 n ++ t) 0 = if n ≤ 4294967295 then valL h t n else none := by
  unfold digs1
  split
  · rename_i h0
    subst h0
    cases h <;> rfl
  · exact digs_val h 40 n t hn
theorem digs_head (h : Bool) : ∀ (f n : Nat), 0 < n → n < 2 ^ f → ∃ b l, digs h f n = b :: l ∧ b ≠ 48
  | 0, n, h0, hn => by
    have : n = 0 := by simpa using hn
    omega
  | f + 1, n, h0, hn => by
    have hb := base_pos h
    unfold digs
    rw [if_neg (by omega)]
    by_cases hd : n / baseN h = 0
    · have hlt : n < baseN h := by
        rcases Nat.div_eq_zero_iff.1 hd with h | h
        · omega
        · exact h
      have e : digs h f (n / baseN h) = [] := by
        rw [hd]
        cases f with
        | zero => rfl
        | succ f => rfl
      refine ⟨chr (n % baseN h), [], by rw [e]; rfl, fun e => ?_⟩
      have := congrArg UInt8.toNat e
      rw [Nat.mod_eq_of_lt hlt, chr_nat (by omega)] at this
      have h48 : (48 : UInt8).toNat = 48 := rfl
      rw [h48] at this
      split at this <;> omega
    · have hdiv : n / baseN h < 2 ^ f := by
        rw [Nat.div_lt_iff_lt_mul (by omega)]
        have : 2 ^ f * 2 ≤ 2 ^ f * baseN h := Nat.mul_le_mul_left _ hb.1
        rw [Nat.pow_succ] at hn
        omega
      obtain ⟨b, l, e, hb⟩ := digs_head h f (n / baseN h) (Nat.pos_of_ne_zero hd) hdiv
      exact ⟨b, l ++ [chr (n % baseN h)], by rw [e]; rfl, hb⟩
theorem digs1_cons (h : Bool) (n : Nat) (hn : n < 2 ^ 40) : ∃ b l, digs1 h 40 n = b :: l ∧ (n = 0 ∧ l = [] ∧ b = 48 ∨ b ≠ 48) := by
  unfold digs1
  split
  · rename_i h0
    exact ⟨48, [], rfl, .inl ⟨h0, rfl, rfl⟩⟩
  · rename_i h0
    obtain ⟨b, l, e, hb⟩ := digs_head h 40 n (by omega) hn
    exact ⟨b, l, e, .inr hb⟩
theorem not_pre {b c : UInt8} {l : List UInt8} (h : c ≠ 120) : List.isPrefixOf [48, 120] (b :: c :: l) = false := by
  rw [Bool.eq_false_iff]
  intro e
  have := List.isPrefixOf_iff_prefix.1 e
  obtain ⟨t, ht⟩ := this
  have h2 := (List.cons.inj ht).2
  exact h (List.cons.inj h2).1.symm
theorem digit_ne {c : UInt8} (h : digitB (c.toNat : Int) = true) : c ≠ 120 ∧ c ≠ 58 := by
  constructor
  · rintro rfl
    revert h
    decide
  · rintro rfl
    revert h
    decide
/-- A row of digits that begins with none, or is one nought alone, and something of another kind behind. -/
theorem numL_dec {n : Nat} (hn : n < 2 ^ 40) (t : List UInt8) (ht : t = [] ∨ t = [107]) : numL (decL n ++ t) = if n ≤ 4294967295 then (if t = [] then some (n : Int) else none) else none := by
  obtain ⟨b, l, e, hb⟩ := digs1_cons false n hn
  have hw := digs1_word false 40 n
  have hv := digs1_val false n t hn
  have hpre : List.isPrefixOf [48, 120] (decL n ++ t) = false := by
    unfold decL
    rw [e]
    cases l with
    | nil =>
      rcases ht with rfl | rfl
      · simp [List.isPrefixOf]
      · exact not_pre (by decide)
    | cons c l =>
      rw [e] at hw
      exact not_pre (digit_ne ((hw c (by simp)).2 rfl)).1
  have hval : valL false (decL n ++ t) 0 = if n ≤ 4294967295 then (if t = [] then some (n : Int) else none) else none := by
    unfold decL
    rw [hv]
    rcases ht with rfl | rfl
    · rfl
    · split
      · rfl
      · rfl
  unfold numL
  rw [hpre, if_neg (by simp)]
  by_cases h2 : 1 < (decL n ++ t).length ∧ (decL n ++ t).head? = some 48
  · rw [if_pos h2]
    obtain ⟨h3, h4⟩ := h2
    unfold decL at h3 h4
    rw [e] at h3 h4
    have h4 : b = 48 := by simpa using h4
    rcases hb with ⟨rfl, rfl, _⟩ | hb
    · rcases ht with rfl | rfl
      · simp at h3
      · rfl
    · exact absurd h4 hb
  · rw [if_neg h2, if_neg (by unfold decL; rw [e]; simp), hval]
theorem numL_zero (n : Nat) (hn : n < 2 ^ 40) : numL (48 :: decL n) = none := by
  obtain ⟨b, l, e, hb⟩ := digs1_cons false n hn
  have hw := digs1_word false 40 n
  rw [e] at hw
  unfold numL decL
  rw [e, not_pre (digit_ne ((hw b (by simp)).2 rfl)).1, if_neg (by simp), if_pos ⟨by simp, rfl⟩]
theorem numL_hex {n : Nat} (hn : n < 2 ^ 40) (t : List UInt8) (ht : t = [] ∨ t = [103]) : numL (hexL n ++ t) = if n ≤ 4294967295 then (if t = [] then some (n : Int) else none) else none := by
  obtain ⟨b, l, e, hb⟩ := digs1_cons true n hn
  have hv := digs1_val true n t hn
  unfold numL hexL
  have hpre : List.isPrefixOf [48, 120] (48 :: 120 :: digs1 true 40 n ++ t) = true := rfl
  rw [hpre, if_pos rfl, if_neg (by rw [e]; simp)]
  show valL true (digs1 true 40 n ++ t) 0 = _
  rw [hv]
  rcases ht with rfl | rfl
  · rfl
  · split
    · rfl
    · rfl
/-- A run of digits and letters that begins with a digit: a number, or an error. -/
theorem tokR_num {l : List UInt8} (hl : l ≠ []) (hd : digitB (hdI l) = true) (hw : ∀ x ∈ l, wordB (x.toNat : Int) = true) : tokR l = match numL l with | some v => ⟨0, 1, l.length, v⟩ | none => ⟨102, 0, 0, 0⟩ := by
  have e := runN_eq_length hw
  unfold tokR
  rw [if_neg (six_small hw (by decide)), if_pos hd]
  unfold figR
  rw [if_neg (by rw [count_none (c := 46) (p := wordB) (fun x hx => hw x (mem_take_of hx)) (by decide)]; omega), e, List.take_length]
  rfl
end Go.Proofs.YtoknkgeojhekoaaDoor
