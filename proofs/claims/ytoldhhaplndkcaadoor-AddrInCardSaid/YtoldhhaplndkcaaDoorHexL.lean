/- Plain laws: digits of base 16, groups. -/
import Derived.Test.YtoldhhaplndkcaaDoorPr4W
namespace Go.Proofs.YtoldhhaplndkcaaDoor
set_option linter.unusedVariables false
set_option linter.unusedSimpArgs false

/-- A digit of base 16. -/
def hxB (b : UInt8) : Option Nat := if 48 ≤ b.toNat ∧ b.toNat ≤ 57 then some (b.toNat - 48) else if 97 ≤ b.toNat ∧ b.toNat ≤ 102 then some (b.toNat - 87) else none
theorem hxB_lt {b : UInt8} {d : Nat} (h : hxB b = some d) : d < 16 := by
  unfold hxB at h
  split at h
  · cases h; omega
  · split at h
    · cases h; omega
    · cases h
def dgI (b : UInt8) : Int := match hxB b with
  | some d => d
  | none => -1
/-- Digits' value, on from v. -/
def hxF : List UInt8 → Nat → Option Nat
  | [], v => some v
  | b :: r, v => match hxB b with
    | none => none
    | some d => hxF r (16 * v + d)
theorem hxF_none {b : UInt8} (r : List UInt8) (v : Nat) (h : hxB b = none) : hxF (b :: r) v = none := by
  rw [hxF.eq_def]
  simp only [h]
theorem hxF_some {b : UInt8} {d : Nat} (r : List UInt8) (v : Nat) (h : hxB b = some d) : hxF (b :: r) v = hxF r (16 * v + d) := by
  rw [hxF.eq_def]
  simp only [h]
theorem hxF_lt : ∀ (l : List UInt8) (v u : Nat), hxF l v = some u → u < (v + 1) * 16 ^ l.length
  | [], v, u, h => by cases h; simp
  | b :: r, v, u, h => by
    cases hb : hxB b with
    | none => rw [hxF_none r v hb] at h; cases h
    | some d =>
      rw [hxF_some r v hb] at h
      have h1 := hxF_lt r _ u h
      have h2 := hxB_lt hb
      have h3 : (16 * v + d + 1) * 16 ^ r.length ≤ ((v + 1) * 16) * 16 ^ r.length := Nat.mul_le_mul_right _ (by omega)
      rw [List.length_cons, Nat.pow_succ, Nat.mul_comm (16 ^ r.length) 16, ← Nat.mul_assoc]
      omega
/-- A group's number: one to four digits. -/
def grpL (l : List UInt8) : Option Nat := if l.length < 1 ∨ 4 < l.length then none else hxF l 0
theorem grp_lt {l : List UInt8} {u : Nat} (h : grpL l = some u) : u < 65536 := by
  unfold grpL at h
  split at h
  · cases h
  · rename_i hl
    have h1 := hxF_lt l 0 u h
    have h2 : 16 ^ l.length ≤ 16 ^ 4 := Nat.pow_le_pow_right (by decide) (by omega)
    omega
theorem hxF_noughts (l : List UInt8) : ∀ n, hxF (List.replicate n 48 ++ l) 0 = hxF l 0
  | 0 => rfl
  | n + 1 => by
    rw [List.replicate_succ]
    show hxF (48 :: (List.replicate n 48 ++ l)) 0 = _
    rw [hxF_some _ 0 (show hxB 48 = some 0 by decide)]
    exact hxF_noughts l n
/-- Some groups, a colon between each two; of no text none. -/
def readG (l : List UInt8) : Option (List Nat) := if l = [] then some [] else mapO grpL (splitL 58 l)
/-- Eight groups, or fewer with a gap. -/
def p6L (l : List UInt8) : Option (List Nat) :=
  match readG (Lib.cut l [58, 58]).1, readG (Lib.cut l [58, 58]).2.1 with
  | some x, some y => if (Lib.cut l [58, 58]).2.2 = true then (if x.length + y.length ≤ 7 then some (x ++ List.replicate (8 - x.length - y.length) 0 ++ y) else none) else if x.length = 8 then some x else none
  | _, _ => none
/-- The groups' bytes. -/
def bytesG (gs : List Nat) : List Nat := gs.flatMap fun g => [g / 256, g % 256]
/-- A digit's sign. -/
def hch (d : Nat) : UInt8 := if d < 10 then UInt8.ofNat (48 + d) else UInt8.ofNat (87 + d)
theorem hch_val : ∀ d : Fin 16, hxB (hch d.val) = some d.val ∧ hch d.val ≠ 58 := by decide
/-- A number's text in base 16. -/
def hexF : Nat → Nat → List UInt8
  | 0, _ => []
  | f + 1, n => if n < 16 then [hch n] else hexF f (n / 16) ++ [hch (n % 16)]
/-- A group's text. -/
def hexL (g : Nat) : List UInt8 := hexF 4 g
theorem hexF_len : ∀ (f n : Nat), (hexF f n).length ≤ f
  | 0, _ => Nat.le_refl _
  | f + 1, n => by
    unfold hexF
    split
    · simp
    · rw [List.length_append]
      have := hexF_len f (n / 16)
      simp
      omega
theorem hexL_len (g : Nat) : (hexL g).length ≤ 4 := hexF_len 4 g
theorem hexF_pos (f n : Nat) : hexF (f + 1) n ≠ [] := by
  unfold hexF
  split <;> simp
theorem hexL_pos (g : Nat) : hexL g ≠ [] := hexF_pos 3 g
theorem hxF_append : ∀ (a b : List UInt8) (v : Nat), hxF (a ++ b) v = (hxF a v).bind (hxF b)
  | [], b, v => rfl
  | c :: a, b, v => by
    cases hc : hxB c with
    | none =>
      rw [hxF_none a v hc]
      exact hxF_none (a ++ b) v hc
    | some d =>
      rw [hxF_some a v hc]
      show hxF (c :: (a ++ b)) v = _
      rw [hxF_some (a ++ b) v hc, hxF_append a b]
theorem hexF_val : ∀ (f n : Nat), n < 16 ^ f → hxF (hexF f n) 0 = some n
  | 0, n, h => by
    have : n = 0 := by simpa using h
    rw [this]
    rfl
  | f + 1, n, h => by
    unfold hexF
    split
    · rename_i h1
      rw [hxF_some [] 0 (hch_val ⟨n, h1⟩).1]
      show some (16 * 0 + n) = some n
      rw [Nat.mul_zero, Nat.zero_add]
    · rw [hxF_append, hexF_val f (n / 16) (by rw [Nat.pow_succ] at h; omega)]
      show hxF [hch (n % 16)] (n / 16) = some n
      rw [hxF_some [] (n / 16) (hch_val ⟨n % 16, Nat.mod_lt _ (by decide)⟩).1]
      show some (16 * (n / 16) + n % 16) = some n
      congr 1
      omega
theorem grp_hex {g : Nat} (h : g < 65536) : grpL (hexL g) = some g := by
  unfold grpL
  have h1 := hexL_len g
  have h2 : (hexL g).length ≠ 0 := fun e => hexL_pos g (List.length_eq_zero_iff.1 e)
  rw [if_neg (by omega)]
  exact hexF_val 4 g (by omega)
theorem hexF_no58 : ∀ (f n : Nat), (58 : UInt8) ∉ hexF f n
  | 0, _ => by simp [hexF]
  | f + 1, n => by
    unfold hexF
    split
    · rename_i h
      intro hm
      exact (hch_val ⟨n, h⟩).2 (List.mem_singleton.1 hm).symm
    · intro hm
      rcases List.mem_append.1 hm with hm | hm
      · exact hexF_no58 f _ hm
      · exact (hch_val ⟨n % 16, Nat.mod_lt _ (by decide)⟩).2 (List.mem_singleton.1 hm).symm
theorem hexL_no58 (g : Nat) : (58 : UInt8) ∉ hexL g := hexF_no58 4 g
end Go.Proofs.YtoldhhaplndkcaaDoor
