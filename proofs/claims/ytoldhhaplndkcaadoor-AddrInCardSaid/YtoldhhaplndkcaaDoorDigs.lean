/- Digits: plain laws of numbers' texts. -/
import Derived.Test.YtoldhhaplndkcaaDoorNumT
namespace Go.Proofs.YtoldhhaplndkcaaDoor
set_option linter.unusedVariables false
set_option linter.unusedSimpArgs false

def isD (b : UInt8) : Bool := 48 ≤ b.toNat && b.toNat ≤ 57
theorem isD_chd {d : Nat} (h : d < 10) : isD (chd d) = true ∧ (chd d).toNat = 48 + d := by
  have h0 : ∀ x : Fin 10, isD (chd x.val) = true ∧ (chd x.val).toNat = 48 + x.val := by decide
  exact h0 ⟨d, h⟩
theorem chd_of {b : UInt8} (h : isD b = true) : chd (b.toNat - 48) = b := by
  unfold isD at h
  simp only [Bool.and_eq_true, decide_eq_true_eq] at h
  unfold chd
  rw [show 48 + (b.toNat - 48) = b.toNat from by omega]
  exact UInt8.ofNat_toNat
/-- Digits' value, on from v. -/
def valD (v : Nat) (l : List UInt8) : Nat := l.foldl (fun v b => v * 10 + (b.toNat - 48)) v
theorem valD_append (v : Nat) (a b : List UInt8) : valD v (a ++ b) = valD (valD v a) b := List.foldl_append
theorem valD_ge : ∀ (l : List UInt8) (v : Nat), v ≤ valD v l
  | [], v => Nat.le_refl _
  | b :: l, v => by
    have := valD_ge l (v * 10 + (b.toNat - 48))
    show v ≤ valD (v * 10 + (b.toNat - 48)) l
    omega
theorem dcF_digits : ∀ (f n : Nat), ∀ b ∈ dcF f n, isD b = true
  | 0, _, b, hb => by cases hb
  | f + 1, n, b, hb => by
    unfold dcF at hb
    split at hb
    · rename_i h
      rw [List.mem_singleton] at hb
      rw [hb]
      exact (isD_chd h).1
    · rcases List.mem_append.1 hb with h | h
      · exact dcF_digits f _ b h
      · rw [List.mem_singleton] at h
        rw [h]
        exact (isD_chd (Nat.mod_lt _ (by decide))).1
theorem dcF_val : ∀ (f n : Nat), n < 10 ^ f → valD 0 (dcF f n) = n
  | 0, n, h => by
    have : n = 0 := by simpa using h
    rw [this]
    rfl
  | f + 1, n, h => by
    unfold dcF
    split
    · rename_i h1
      unfold valD
      simp only [List.foldl_cons, List.foldl_nil]
      rw [(isD_chd h1).2]
      omega
    · rw [valD_append, dcF_val f (n / 10) (by rw [Nat.pow_succ] at h; omega)]
      unfold valD
      simp only [List.foldl_cons, List.foldl_nil]
      rw [(isD_chd (Nat.mod_lt n (by decide))).2]
      omega
theorem dcF_len10 : ∀ (f n k : Nat), n < 10 ^ (k + 1) → (dcF f n).length ≤ k + 1
  | 0, _, _, _ => Nat.zero_le _
  | f + 1, n, k, h => by
    unfold dcF
    split
    · simp
    · rename_i h1
      cases k with
      | zero => simp at h; omega
      | succ k =>
        have := dcF_len10 f (n / 10) k (by rw [Nat.pow_succ] at h; omega)
        rw [List.length_append]
        simp
        omega
theorem dcF_pos (f n : Nat) : dcF (f + 1) n ≠ [] := by
  unfold dcF
  split <;> simp
theorem dcl_digits (n : Nat) : ∀ b ∈ dcl n, isD b = true := dcF_digits 20 n
theorem dcl_val {n : Nat} (h : n ≤ 4294967295) : valD 0 (dcl n) = n := dcF_val 20 n (by omega)
theorem dcl_pos (n : Nat) : dcl n ≠ [] := dcF_pos 19 n
theorem dcl_len10 {n : Nat} (h : n ≤ 4294967295) : (dcl n).length ≤ 10 := dcF_len10 20 n 9 (by omega)
theorem dcF_fuel : ∀ (f n : Nat), n < 10 ^ f → 0 < f → dcF (f + 1) n = dcF f n
  | 0, _, _, h => by cases h
  | f + 1, n, hn, _ => by
    show (if n < 10 then [chd n] else dcF (f + 1) (n / 10) ++ [chd (n % 10)]) = (if n < 10 then [chd n] else dcF f (n / 10) ++ [chd (n % 10)])
    by_cases h : n < 10
    · rw [if_pos h, if_pos h]
    · rw [if_neg h, if_neg h]
      have hf : 0 < f := by
        rcases Nat.eq_zero_or_pos f with rfl | h0
        · simp at hn; omega
        · exact h0
      rw [dcF_fuel f (n / 10) (by rw [Nat.pow_succ] at hn; omega) hf]
theorem dcF_head : ∀ (f n : Nat), 1 ≤ n → n < 10 ^ f → ∃ b r, dcF f n = b :: r ∧ b ≠ 48
  | 0, n, h1, h => by simp at h; omega
  | f + 1, n, h1, h => by
    unfold dcF
    split
    · rename_i h2
      refine ⟨chd n, [], rfl, ?_⟩
      have h0 : ∀ x : Fin 10, 1 ≤ x.val → chd x.val ≠ 48 := by decide
      exact h0 ⟨n, h2⟩ h1
    · obtain ⟨b, r, e, hb⟩ := dcF_head f (n / 10) (by omega) (by rw [Nat.pow_succ] at h; omega)
      exact ⟨b, r ++ [chd (n % 10)], by rw [e]; rfl, hb⟩
/-- No needless nought ahead. -/
def canD (l : List UInt8) : Prop := l ≠ [] ∧ ¬ (1 < l.length ∧ l.head? = some 48)
theorem dcl_can {n : Nat} (h : n ≤ 4294967295) : canD (dcl n) := by
  refine ⟨dcl_pos n, ?_⟩
  rintro ⟨e1, e2⟩
  rcases Nat.eq_zero_or_pos n with rfl | h0
  · have : (dcl 0).length = 1 := by decide
    omega
  · obtain ⟨b, r, e, hb⟩ := dcF_head 20 n h0 (by omega)
    unfold dcl at e2
    rw [e] at e2
    exact hb (Option.some.inj e2)
theorem valD_pos : ∀ (l : List UInt8), (∀ b ∈ l, isD b = true) → l ≠ [] → l.head? ≠ some 48 → 1 ≤ valD 0 l
  | [], _, h, _ => absurd rfl h
  | b :: l, hd, _, h => by
    have hb := hd b (List.mem_cons_self ..)
    unfold isD at hb
    simp only [Bool.and_eq_true, decide_eq_true_eq] at hb
    have h1 : ¬ b = 48 := fun e => h (by rw [e]; rfl)
    have h2 : b.toNat ≠ 48 := fun e => h1 (UInt8.toNat_inj.1 e)
    have := valD_ge l (0 * 10 + (b.toNat - 48))
    show 1 ≤ valD (0 * 10 + (b.toNat - 48)) l
    omega
/-- A text of digits without a needless nought is its value's text. -/
theorem dcF_of : ∀ (k : Nat) (l : List UInt8) (f : Nat), l.length = k → (∀ b ∈ l, isD b = true) → canD l → valD 0 l < 10 ^ f → 0 < f → dcF f (valD 0 l) = l
  | 0, l, f, hk, _, hc, _, _ => absurd (List.length_eq_zero_iff.1 hk) hc.1
  | k + 1, l, f, hk, hd, hc, hv, hf => by
    have hl := (List.dropLast_concat_getLast hc.1).symm
    obtain ⟨x, hx⟩ : ∃ x, l.dropLast = x := ⟨_, rfl⟩
    obtain ⟨b, hb⟩ : ∃ b, l.getLast hc.1 = b := ⟨_, rfl⟩
    rw [hx, hb] at hl
    subst hl
    have hbd := hd b (by simp)
    have hb9 : b.toNat - 48 < 10 := by
      unfold isD at hbd
      simp only [Bool.and_eq_true, decide_eq_true_eq] at hbd
      omega
    have hval : valD 0 (x ++ [b]) = valD 0 x * 10 + (b.toNat - 48) := by
      rw [valD_append]
      rfl
    obtain ⟨f, rfl⟩ : ∃ g, f = g + 1 := ⟨f - 1, by omega⟩
    cases x with
    | nil =>
      have h0 : valD 0 ([] ++ [b]) = b.toNat - 48 := by rw [hval]; show 0 * 10 + _ = _; omega
      rw [h0]
      unfold dcF
      rw [if_pos hb9, chd_of hbd]
      rfl
    | cons a x =>
      have hh : (a :: x).head? ≠ some 48 := by
        intro e
        refine hc.2 ⟨by simp, ?_⟩
        have e : some a = some 48 := e
        show some a = some 48
        exact e
      have hpos := valD_pos (a :: x) (fun c hc2 => hd c (List.mem_append_left _ hc2)) (by simp) hh
      rw [hval] at hv ⊢
      have ih := dcF_of k (a :: x) f (by rw [List.length_append] at hk; simpa using hk) (fun c hc2 => hd c (List.mem_append_left _ hc2)) ⟨by simp, fun e => hh e.2⟩ (by rw [Nat.pow_succ] at hv; omega) (by
        rcases Nat.eq_zero_or_pos f with rfl | h0
        · simp at hv; omega
        · exact h0)
      unfold dcF
      rw [if_neg (by omega)]
      rw [show (valD 0 (a :: x) * 10 + (b.toNat - 48)) / 10 = valD 0 (a :: x) from by omega, show (valD 0 (a :: x) * 10 + (b.toNat - 48)) % 10 = b.toNat - 48 from by omega, ih, chd_of hbd]
theorem dcl_of {l : List UInt8} (hd : ∀ b ∈ l, isD b = true) (hc : canD l) (hv : valD 0 l < 10 ^ 20) : dcl (valD 0 l) = l := dcF_of _ l 20 rfl hd hc hv (by decide)
/-- A number of at most `most`, on from v. -/
def numM (most : Nat) : List UInt8 → Nat → Option Nat
  | [], v => some v
  | b :: r, v => if isD b = false then none else if most < v * 10 + (b.toNat - 48) then none else numM most r (v * 10 + (b.toNat - 48))
theorem numM_some : ∀ (most : Nat) (l : List UInt8) (v u : Nat), numM most l v = some u → v ≤ most → (∀ b ∈ l, isD b = true) ∧ valD v l = u ∧ u ≤ most
  | _, [], v, u, h, hv => by
    have h : some v = some u := h
    cases h
    exact ⟨(fun b hb => by cases hb), rfl, hv⟩
  | most, b :: l, v, u, h, hv => by
    unfold numM at h
    split at h
    · cases h
    · rename_i hb
      split at h
      · cases h
      · obtain ⟨h1, h2, h3⟩ := numM_some most l _ u h (by omega)
        refine ⟨fun c hc => ?_, h2, h3⟩
        rcases List.mem_cons.1 hc with rfl | hc
        · simpa using hb
        · exact h1 c hc
theorem numM_of : ∀ (most : Nat) (l : List UInt8) (v : Nat), (∀ b ∈ l, isD b = true) → valD v l ≤ most → numM most l v = some (valD v l)
  | _, [], v, _, _ => rfl
  | most, b :: l, v, hd, hv => by
    have hv : valD (v * 10 + (b.toNat - 48)) l ≤ most := hv
    have h1 := valD_ge l (v * 10 + (b.toNat - 48))
    unfold numM
    rw [if_neg (by rw [hd b (List.mem_cons_self ..)]; decide), if_neg (by omega)]
    exact numM_of most l _ (fun c hc => hd c (List.mem_cons_of_mem _ hc)) hv
/-- What the document calls a number. -/
def numD (most : Nat) (l : List UInt8) : Option Nat := if l = [] ∨ (1 < l.length ∧ l.head? = some 48) then none else numM most l 0
theorem numD_iff {most : Nat} (hm : most ≤ 4294967295) (l : List UInt8) (u : Nat) : numD most l = some u ↔ u ≤ most ∧ l = dcl u := by
  constructor
  · intro h
    unfold numD at h
    split at h
    · cases h
    · rename_i hc
      obtain ⟨h1, h2, h3⟩ := numM_some most l 0 u h (by omega)
      refine ⟨h3, ?_⟩
      have := dcl_of h1 ⟨fun e => hc (.inl e), fun e => hc (.inr e)⟩ (by rw [h2]; omega)
      rw [← this, h2]
  · rintro ⟨h1, rfl⟩
    have hc := dcl_can (n := u) (by omega)
    unfold numD
    rw [if_neg (fun e => e.elim hc.1 hc.2), numM_of most _ 0 (dcl_digits u) (by rw [dcl_val (by omega)]; exact h1), dcl_val (by omega)]
end Go.Proofs.YtoldhhaplndkcaaDoor
