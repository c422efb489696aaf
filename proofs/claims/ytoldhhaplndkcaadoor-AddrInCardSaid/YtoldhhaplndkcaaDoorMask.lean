/- Plain laws: masks. -/
import Derived.Test.YtoldhhaplndkcaaDoorChecked
import Derived.ProofKit
namespace Go.Proofs.YtoldhhaplndkcaaDoor
set_option linter.unusedVariables false
set_option linter.unusedSimpArgs false

/-- The first bits of a byte. -/
def keepN (k b : Nat) : Nat := b / 2 ^ (8 - k) * 2 ^ (8 - k)
theorem and_all : ((List.finRange 9).all fun k => (List.finRange 256).all fun b => Go.bits .and .u8 (b.val : Int) (65280 / 2 ^ k.val % 256) == ((keepN k.val b.val : Nat) : Int)) = true := by kernel_rfl
theorem andNot_all : ((List.finRange 9).all fun k => (List.finRange 256).all fun b => Go.bits .andNot .u8 (b.val : Int) (255 / 2 ^ k.val) == ((keepN k.val b.val : Nat) : Int)) = true := by kernel_rfl
theorem and_keep {k b : Nat} (hk : k ≤ 8) (hb : b < 256) : Go.bits .and .u8 (b : Int) (65280 / 2 ^ k % 256) = ((keepN k b : Nat) : Int) := by
  have h1 := List.all_eq_true.1 and_all ⟨k, by omega⟩ (List.mem_finRange _)
  have h2 := List.all_eq_true.1 h1 ⟨b, hb⟩ (List.mem_finRange _)
  exact eq_of_beq h2
theorem andNot_keep {k b : Nat} (hk : k ≤ 8) (hb : b < 256) : Go.bits .andNot .u8 (b : Int) (255 / 2 ^ k) = ((keepN k b : Nat) : Int) := by
  have h1 := List.all_eq_true.1 andNot_all ⟨k, by omega⟩ (List.mem_finRange _)
  have h2 := List.all_eq_true.1 h1 ⟨b, hb⟩ (List.mem_finRange _)
  exact eq_of_beq h2
theorem keepN_lt {k b : Nat} (hb : b < 256) : keepN k b < 256 := by
  have := Nat.div_mul_le_self b (2 ^ (8 - k))
  unfold keepN
  omega
theorem keepN_zero {b : Nat} (hb : b < 256) : keepN 0 b = 0 := by
  unfold keepN
  rw [show b / 2 ^ (8 - 0) = 0 from Nat.div_eq_of_lt (by simpa using hb), Nat.zero_mul]
theorem keepN_full (b : Nat) : keepN 8 b = b := by unfold keepN; simp
/-- How many bits of a byte stay. -/
def clampB (d : Int) : Nat := if d ≤ 0 then 0 else if 8 ≤ d then 8 else d.toNat
theorem clampB_le (d : Int) : clampB d ≤ 8 := by
  unfold clampB
  split
  · omega
  · split <;> omega
def keepB8 (d : Int) (x : UInt8) : UInt8 := UInt8.ofNat (keepN (clampB d) x.toNat)
theorem keepB8_toNat (d : Int) (x : UInt8) : (keepB8 d x).toNat = keepN (clampB d) x.toNat := by
  unfold keepB8
  rw [UInt8.toNat_ofNat']
  exact Nat.mod_eq_of_lt (keepN_lt x.toNat_lt)
/-- The first bits of some bytes. -/
def maskL (bits : Int) : List UInt8 → List UInt8
  | [] => []
  | x :: xs => keepB8 bits x :: maskL (bits - 8) xs
theorem maskL_len : ∀ (bits : Int) (xs : List UInt8), (maskL bits xs).length = xs.length
  | _, [] => rfl
  | b, x :: xs => by
    show (maskL (b - 8) xs).length + 1 = xs.length + 1
    rw [maskL_len]
theorem maskL_snoc : ∀ (bits : Int) (xs : List UInt8) (x : UInt8), maskL bits (xs ++ [x]) = maskL bits xs ++ [keepB8 (bits - 8 * (xs.length : Int)) x]
  | b, [], x => by
    show [keepB8 b x] = [] ++ [keepB8 (b - 8 * ((0 : Nat) : Int)) x]
    rw [show b - 8 * ((0 : Nat) : Int) = b from by omega]
    rfl
  | b, y :: ys, x => by
    show keepB8 b y :: maskL (b - 8) (ys ++ [x]) = keepB8 b y :: (maskL (b - 8) ys ++ [keepB8 (b - 8 * (((ys.length + 1 : Nat)) : Int)) x])
    rw [maskL_snoc (b - 8) ys x, show b - 8 - 8 * (ys.length : Int) = b - 8 * (((ys.length + 1 : Nat)) : Int) from by omega]
def netE (xs : List UInt8) (bits : Int) : Nat := if xs.length = 4 ∨ xs.length = 16 then (if 0 ≤ bits ∧ bits ≤ 8 * (xs.length : Int) then 0 else 61) else 60
def netR (xs : List UInt8) (bits : Int) : List UInt8 := if netE xs bits = 0 then maskL bits xs else []
theorem net_ok {xs : List UInt8} {bits : Int} (h4 : xs.length = 4 ∨ xs.length = 16) (h0 : 0 ≤ bits) (h1 : bits ≤ 8 * (xs.length : Int)) : netE xs bits = 0 ∧ netR xs bits = maskL bits xs := by
  have e : netE xs bits = 0 := by unfold netE; rw [if_pos h4, if_pos ⟨h0, h1⟩]
  refine ⟨e, ?_⟩
  unfold netR
  rw [if_pos e]
theorem net_bits {xs : List UInt8} {bits : Int} (h4 : xs.length = 4 ∨ xs.length = 16) (h : ¬ (0 ≤ bits ∧ bits ≤ 8 * (xs.length : Int))) : netE xs bits = 61 ∧ netR xs bits = [] := by
  have e : netE xs bits = 61 := by unfold netE; rw [if_pos h4, if_neg h]
  refine ⟨e, ?_⟩
  unfold netR
  rw [e]
  rfl
theorem net_form {xs : List UInt8} {bits : Int} (h4 : ¬ (xs.length = 4 ∨ xs.length = 16)) : netE xs bits = 60 ∧ netR xs bits = [] := by
  have e : netE xs bits = 60 := by unfold netE; rw [if_neg h4]
  refine ⟨e, ?_⟩
  unfold netR
  rw [e]
  rfl
end Go.Proofs.YtoldhhaplndkcaaDoor
