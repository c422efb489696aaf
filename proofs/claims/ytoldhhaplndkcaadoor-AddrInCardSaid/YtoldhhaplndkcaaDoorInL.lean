/- Plain laws: nets and single bits. -/
import Derived.Test.YtoldhhaplndkcaaDoorInW
namespace Go.Proofs.YtoldhhaplndkcaaDoor
set_option linter.unusedVariables false
set_option linter.unusedSimpArgs false

theorem xor_all : ((List.finRange 8).all fun j => (List.finRange 256).all fun b => Go.bits .xor .u8 (b.val : Int) (128 / 2 ^ j.val) == ((b.val ^^^ (128 / 2 ^ j.val) : Nat) : Int)) = true := by kernel_rfl
theorem or_all : ((List.finRange 8).all fun j => (List.finRange 256).all fun b => Go.bits .or .u8 (b.val : Int) (128 / 2 ^ j.val) == ((b.val ||| (128 / 2 ^ j.val) : Nat) : Int)) = true := by kernel_rfl
theorem flip_all : ((List.finRange 8).all fun j => (List.finRange 256).all fun b => (List.finRange 9).all fun c => (keepN c.val (b.val ^^^ (128 / 2 ^ j.val)) == keepN c.val b.val) == decide (c.val ≤ j.val) && decide (b.val ^^^ (128 / 2 ^ j.val) < 256)) = true := by kernel_rfl
theorem set_all : ((List.finRange 8).all fun j => (List.finRange 256).all fun b => (List.finRange 9).all fun c => decide (c.val ≤ j.val → keepN c.val (keepN c.val b.val ||| (128 / 2 ^ j.val)) ≠ keepN c.val b.val ||| (128 / 2 ^ j.val)) && decide (keepN c.val b.val ||| (128 / 2 ^ j.val) < 256) && (keepN c.val (keepN c.val b.val) == keepN c.val b.val)) = true := by kernel_rfl
def xorB (x : UInt8) (j : Nat) : UInt8 := UInt8.ofNat (x.toNat ^^^ (128 / 2 ^ j))
def orB (x : UInt8) (j : Nat) : UInt8 := UInt8.ofNat (x.toNat ||| (128 / 2 ^ j))
theorem flip_at {j c : Nat} (x : UInt8) (hj : j < 8) (hc : c ≤ 8) : (keepN c (x.toNat ^^^ (128 / 2 ^ j)) == keepN c x.toNat) = decide (c ≤ j) ∧ x.toNat ^^^ (128 / 2 ^ j) < 256 := by
  have h1 := List.all_eq_true.1 flip_all ⟨j, hj⟩ (List.mem_finRange _)
  have h2 := List.all_eq_true.1 h1 ⟨x.toNat, x.toNat_lt⟩ (List.mem_finRange _)
  have h3 := List.all_eq_true.1 h2 ⟨c, by omega⟩ (List.mem_finRange _)
  simp only [Bool.and_eq_true, decide_eq_true_eq, beq_iff_eq] at h3
  exact h3
theorem set_at {j c : Nat} (x : UInt8) (hj : j < 8) (hc : c ≤ 8) : (c ≤ j → keepN c (keepN c x.toNat ||| (128 / 2 ^ j)) ≠ keepN c x.toNat ||| (128 / 2 ^ j)) ∧ keepN c x.toNat ||| (128 / 2 ^ j) < 256 ∧ keepN c (keepN c x.toNat) = keepN c x.toNat := by
  have h1 := List.all_eq_true.1 set_all ⟨j, hj⟩ (List.mem_finRange _)
  have h2 := List.all_eq_true.1 h1 ⟨x.toNat, x.toNat_lt⟩ (List.mem_finRange _)
  have h3 := List.all_eq_true.1 h2 ⟨c, by omega⟩ (List.mem_finRange _)
  simp only [Bool.and_eq_true, decide_eq_true_eq, beq_iff_eq] at h3
  exact ⟨h3.1.1, h3.1.2, h3.2⟩
theorem xorB_toNat (x : UInt8) {j : Nat} (hj : j < 8) : (xorB x j).toNat = x.toNat ^^^ (128 / 2 ^ j) := by
  unfold xorB
  rw [UInt8.toNat_ofNat']
  exact Nat.mod_eq_of_lt (flip_at (c := 0) x hj (by omega)).2
theorem bits_xor (x : UInt8) {j : Nat} (hj : j < 8) : Go.bits .xor .u8 (x.toNat : Int) (128 / 2 ^ j) = ((xorB x j).toNat : Int) := by
  have h1 := List.all_eq_true.1 xor_all ⟨j, hj⟩ (List.mem_finRange _)
  have h2 := List.all_eq_true.1 h1 ⟨x.toNat, x.toNat_lt⟩ (List.mem_finRange _)
  rw [xorB_toNat x hj]
  exact eq_of_beq h2
theorem or_lt (x : UInt8) {j : Nat} (hj : j < 8) : x.toNat ||| (128 / 2 ^ j) < 256 := Nat.or_lt_two_pow (n := 8) x.toNat_lt (by
  have : 128 / 2 ^ j ≤ 128 := Nat.div_le_self _ _
  omega)
theorem orB_toNat (x : UInt8) {j : Nat} (hj : j < 8) : (orB x j).toNat = x.toNat ||| (128 / 2 ^ j) := by
  unfold orB
  rw [UInt8.toNat_ofNat']
  exact Nat.mod_eq_of_lt (or_lt x hj)
theorem bits_or (x : UInt8) {j : Nat} (hj : j < 8) : Go.bits .or .u8 (x.toNat : Int) (128 / 2 ^ j) = ((orB x j).toNat : Int) := by
  have h1 := List.all_eq_true.1 or_all ⟨j, hj⟩ (List.mem_finRange _)
  have h2 := List.all_eq_true.1 h1 ⟨x.toNat, x.toNat_lt⟩ (List.mem_finRange _)
  rw [orB_toNat x hj]
  exact eq_of_beq h2
theorem keep_flip (d : Int) (x : UInt8) {j : Nat} (hj : j < 8) : keepB8 d (xorB x j) = keepB8 d x ↔ clampB d ≤ j := by
  rw [← UInt8.toNat_inj, keepB8_toNat, keepB8_toNat, xorB_toNat x hj]
  have h := (flip_at x hj (clampB_le d)).1
  rw [← beq_iff_eq, h, decide_eq_true_iff]
theorem keep_idem (d : Int) (x : UInt8) : keepB8 d (keepB8 d x) = keepB8 d x := by
  rw [← UInt8.toNat_inj, keepB8_toNat, keepB8_toNat]
  exact (set_at (j := 0) x (by omega) (clampB_le d)).2.2
theorem keep_or (d : Int) (x : UInt8) {j : Nat} (hj : j < 8) (h : clampB d ≤ j) : keepB8 d (orB (keepB8 d x) j) ≠ orB (keepB8 d x) j := by
  rw [Ne, ← UInt8.toNat_inj, keepB8_toNat, orB_toNat _ hj, keepB8_toNat]
  exact (set_at x hj (clampB_le d)).1 h
theorem maskL_set : ∀ (n : Int) (xs : List UInt8) (i : Nat) (y : UInt8), maskL n (xs.set i y) = (maskL n xs).set i (keepB8 (n - 8 * (i : Int)) y)
  | _, [], _, _ => rfl
  | n, x :: xs, 0, y => by
    show keepB8 n y :: maskL (n - 8) xs = keepB8 (n - 8 * ((0 : Nat) : Int)) y :: maskL (n - 8) xs
    rw [show n - 8 * ((0 : Nat) : Int) = n from by omega]
  | n, x :: xs, i + 1, y => by
    show keepB8 n x :: maskL (n - 8) (xs.set i y) = keepB8 n x :: (maskL (n - 8) xs).set i (keepB8 (n - 8 * ((i + 1 : Nat) : Int)) y)
    rw [maskL_set (n - 8) xs i y, show n - 8 - 8 * (i : Int) = n - 8 * ((i + 1 : Nat) : Int) from by omega]
theorem maskL_get : ∀ (n : Int) (xs : List UInt8) (i : Nat), (maskL n xs)[i]? = (xs[i]?).map (keepB8 (n - 8 * (i : Int)))
  | _, [], _ => rfl
  | n, x :: xs, 0 => by
    show some (keepB8 n x) = some (keepB8 (n - 8 * ((0 : Nat) : Int)) x)
    rw [show n - 8 * ((0 : Nat) : Int) = n from by omega]
  | n, x :: xs, i + 1 => by
    show (maskL (n - 8) xs)[i]? = (xs[i]?).map (keepB8 (n - 8 * ((i + 1 : Nat) : Int)))
    rw [maskL_get (n - 8) xs i, show n - 8 - 8 * (i : Int) = n - 8 * ((i + 1 : Nat) : Int) from by omega]
theorem maskL_idem : ∀ (n : Int) (xs : List UInt8), maskL n (maskL n xs) = maskL n xs
  | _, [] => rfl
  | n, x :: xs => by
    show keepB8 n (keepB8 n x) :: maskL (n - 8) (maskL (n - 8) xs) = keepB8 n x :: maskL (n - 8) xs
    rw [keep_idem, maskL_idem]
theorem netE_zero {xs : List UInt8} {n : Int} (h4 : xs.length = 4 ∨ xs.length = 16) (h0 : 0 ≤ n) (h1 : n ≤ 8 * (xs.length : Int)) : netE xs n = 0 := (net_ok h4 h0 h1).1
theorem in_net {xs : List UInt8} {n : Int} (h4 : xs.length = 4 ∨ xs.length = 16) (h0 : 0 ≤ n) (h1 : n ≤ 8 * (xs.length : Int)) : inL xs (maskL n xs) n = (true, 0) := by
  unfold inL
  rw [if_neg (fun h => h (maskL_len n xs).symm), if_neg (fun h => h (netE_zero h4 h0 h1)), if_neg (fun h => h (maskL_idem n xs)), decide_eq_true rfl]
theorem set_eq_iff {l : List UInt8} {i : Nat} {y z : UInt8} (h : l[i]? = some z) : l.set i y = l ↔ y = z := by
  constructor
  · intro e
    have h2 := congrArg (fun l => l[i]?) e
    simp only [List.getElem?_set, if_true] at h2
    rw [if_pos (List.getElem?_eq_some_iff.1 h).1, h] at h2
    exact Option.some.inj h2
  · intro e
    subst e
    exact set_same h
theorem clamp_k {n : Int} {k : Nat} : clampB (n - 8 * ((k / 8 : Nat) : Int)) ≤ k % 8 ↔ n ≤ (k : Int) := by
  unfold clampB
  split
  · omega
  · split <;> omega
theorem in_flip {xs : List UInt8} {n : Int} {k : Nat} {x : UInt8} (h4 : xs.length = 4 ∨ xs.length = 16) (h0 : 0 ≤ n) (h1 : n ≤ 8 * (xs.length : Int)) (hx : xs[k / 8]? = some x) :
    inL (xs.set (k / 8) (xorB x (k % 8))) (maskL n xs) n = (decide (n ≤ (k : Int)), 0) := by
  have hl : (xs.set (k / 8) (xorB x (k % 8))).length = xs.length := List.length_set
  unfold inL
  rw [if_neg (fun h => h (by rw [hl, maskL_len])), if_neg (fun h => h (netE_zero (by rw [hl]; exact h4) h0 (by rw [hl]; exact h1))), if_neg (fun h => h (maskL_idem n xs)), maskL_set]
  have hg := maskL_get n xs (k / 8)
  rw [hx] at hg
  exact Prod.ext (decide_eq_decide.2 ((set_eq_iff hg).trans ((keep_flip _ x (Nat.mod_lt _ (by omega))).trans clamp_k))) rfl
theorem in_bad {xs : List UInt8} {n : Int} {k : Nat} {x : UInt8} (h4 : xs.length = 4 ∨ xs.length = 16) (h0 : 0 ≤ n) (h1 : n ≤ 8 * (xs.length : Int)) (hx : xs[k / 8]? = some x) (hk : n ≤ (k : Int)) :
    inL xs ((maskL n xs).set (k / 8) (orB (keepB8 (n - 8 * ((k / 8 : Nat) : Int)) x) (k % 8))) n = (false, 62) := by
  have hg := maskL_get n xs (k / 8)
  rw [hx] at hg
  have hi : k / 8 < (maskL n xs).length := (List.getElem?_eq_some_iff.1 hg).1
  have hne : maskL n ((maskL n xs).set (k / 8) (orB (keepB8 (n - 8 * ((k / 8 : Nat) : Int)) x) (k % 8))) ≠ (maskL n xs).set (k / 8) (orB (keepB8 (n - 8 * ((k / 8 : Nat) : Int)) x) (k % 8)) := by
    intro e
    rw [maskL_set] at e
    have h2 := congrArg (fun l => l[k / 8]?) e
    simp only [List.getElem?_set, if_true, maskL_len] at h2
    rw [maskL_len] at hi
    rw [if_pos hi, if_pos hi] at h2
    exact keep_or _ x (Nat.mod_lt _ (by omega)) (clamp_k.2 hk) (Option.some.inj h2)
  unfold inL
  rw [if_neg (fun h => h (by rw [List.length_set, maskL_len])), if_neg (fun h => h (netE_zero h4 h0 h1)), if_pos hne]
theorem low_nat (x : Int) : Go.bits .and .i64 x 9223372036854775807 = (((BitVec.ofInt 64 x).toNat % 2 ^ 63 : Nat) : Int) := by
  have h : (BitVec.ofInt 64 x &&& BitVec.ofInt 64 9223372036854775807).toNat = (BitVec.ofInt 64 x).toNat % 2 ^ 63 := by
    rw [BitVec.toNat_and, show (BitVec.ofInt 64 9223372036854775807).toNat = 2 ^ 63 - 1 from by decide, Nat.and_two_pow_sub_one_eq_mod]
  have h2 := Nat.mod_lt (BitVec.ofInt 64 x).toNat (show 0 < 2 ^ 63 by decide)
  show IntKind.wrap .i64 ((BitVec.ofInt 64 x &&& BitVec.ofInt 64 9223372036854775807).toNat : Int) = _
  rw [h]
  exact IntWalk.i64_in _ (by omega)
theorem low_nonneg (x : Int) : 0 ≤ Go.bits .and .i64 x 9223372036854775807 := by
  rw [low_nat]
  exact Int.natCast_nonneg _
end Go.Proofs.YtoldhhaplndkcaaDoor
