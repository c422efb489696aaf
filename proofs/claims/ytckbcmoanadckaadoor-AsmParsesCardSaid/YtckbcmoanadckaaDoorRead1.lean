/- number, put: a number ahead, and its field. -/
import Derived.Test.YtckbcmoanadckaaDoorLine
import Derived.Deep.LoopGhost
import Derived.Lib.SmallJoins
namespace Go.Proofs.YtckbcmoanadckaaDoor
open Go.RowKit Go.Shelf
set_option linter.unusedVariables false
set_option linter.unusedSimpArgs false

def isD (b : UInt8) : Bool := 48 ≤ b.toNat && b.toNat ≤ 57
/-- The digits ahead, at most so many: how many, and their value. -/
def digN : Nat → List UInt8 → Nat → Nat × Nat
  | 0, _, v => (0, v)
  | f + 1, [], v => (0, v)
  | f + 1, b :: l, v => if isD b then ((digN f l (v * 10 + (b.toNat - 48))).1 + 1, (digN f l (v * 10 + (b.toNat - 48))).2) else (0, v)
theorem digN_le : ∀ (f : Nat) (l : List UInt8) (v : Nat), (digN f l v).1 ≤ f ∧ (digN f l v).1 ≤ l.length
  | 0, l, v => ⟨Nat.le_refl _, Nat.zero_le _⟩
  | f + 1, [], v => ⟨Nat.zero_le _, Nat.zero_le _⟩
  | f + 1, b :: l, v => by
    unfold digN
    have := digN_le f l (v * 10 + (b.toNat - 48))
    split
    · simp only [List.length_cons]; omega
    · simp
theorem drop_byte {s : ByteArray} {i : Nat} (h : i < s.size) : s.data.toList.drop i = s[i] :: s.data.toList.drop (i + 1) := by
  rw [List.drop_eq_getElem_cons (by rw [size_list]; exact h), byte_get s i h]
theorem digN_val : ∀ (f : Nat) (l : List UInt8) (v : Nat), (digN f l v).2 < (v + 1) * 10 ^ f
  | 0, l, v => by unfold digN; simp
  | f + 1, [], v => by
    unfold digN
    have : 1 ≤ 10 ^ (f + 1) := Nat.one_le_pow _ _ (by decide)
    have := Nat.mul_le_mul_left (v + 1) this
    simp at this ⊢
    omega
  | f + 1, b :: l, v => by
    unfold digN
    split
    · rename_i h
      have h1 := digN_val f l (v * 10 + (b.toNat - 48))
      unfold isD at h
      simp at h
      have h2 : (v * 10 + (b.toNat - 48) + 1) ≤ (v + 1) * 10 := by omega
      have h3 := Nat.mul_le_mul_right (10 ^ f) h2
      rw [Nat.pow_succ, Nat.mul_comm (10 ^ f) 10, ← Nat.mul_assoc]
      exact Nat.lt_of_lt_of_le h1 h3
    · have : 1 ≤ 10 ^ (f + 1) := Nat.one_le_pow _ _ (by decide)
      have := Nat.mul_le_mul_left (v + 1) this
      simp at this ⊢
      omega
set_option maxRecDepth 100000 in
theorem number_any (s : ByteArray) (w : World) (hs : s.size ≤ 4611686018427387904) : Calls Tryd.prog 66 #[.string s] w fun e w' => e = .returned (.tuple #[.int .u64 (digN 11 s.data.toList 0).2, .int .i64 (digN 11 s.data.toList 0).1]) ∧ w = w' := by
  obtain ⟨R, hR⟩ : ∃ R, digN 11 s.data.toList 0 = R := ⟨_, rfl⟩
  rw [hR]
  have HR := Lib.hid hR
  clear hR
  go_enter Tryd.func66, Tryd.ntmps66
  go_wp2_with fail
  go_loopg [4, 5] 11 (fun g s4 s5 wr => ∃ v n : Nat, n + g = 11 ∧ s4 = .int .u64 v ∧ s5 = .int .i64 n ∧ n ≤ s.size ∧ Aside (v < 10 ^ n) ∧ Aside (((digN g (s.data.toList.drop n) v).1 + n, (digN g (s.data.toList.drop n) v).2) = R) ∧ w = wr)
  case atStart => exact ⟨0, 0, rfl, rfl, rfl, by omega, by show _ < _; decide, by
      show _ = _
      rw [← HR.out, List.drop_zero]
      rfl, rfl⟩
  case round =>
    obtain ⟨v, n, hn, rfl, rfl, hns, hv, hA, rfl⟩ := hrel
    have n0 : (0 : Int) ≤ (n : Int) := by omega
    have hv11 : (v : Int) ≤ 100000000000 := by
      have h1 := hv.out
      have h2 : (10 : Nat) ^ n ≤ 10 ^ 11 := Nat.pow_le_pow_right (by decide) (by omega)
      have h3 : (10 : Nat) ^ 11 = 100000000000 := by decide
      omega
    have v0 : (0 : Int) ≤ (v : Int) := by omega
    by_cases hlt : n < s.size
    · have n1 : (n : Int) < (s.size : Int) := by omega
      cases gk with
      | zero =>
        have n2 : ¬ (n : Int) < 11 := by omega
        have hR : R = (n, v) := by
          rw [← hA.out]
          unfold digN
          simp
        have HRv := Lib.hid hR
        clear hR hlt
        go_wp2_with fail
        go_ret2
        rw [HRv.out]
        exact ⟨rfl, rfl⟩
      | succ g =>
        have n2 : (n : Int) < 11 := by omega
        have hA2 := hA.out
        rw [drop_byte hlt] at hA2
        unfold digN at hA2
        have HA := Lib.hid hA2
        have hb := (s[n]).toNat_lt
        clear hA2 hA
        by_cases h1 : 48 ≤ s[n].toNat
        · have c1 : decide ((s[n].toNat : Int) ≥ 48) = true := decide_eq_true (by omega)
          by_cases h2 : s[n].toNat ≤ 57
          · have c2 : decide ((s[n].toNat : Int) ≤ 57) = true := decide_eq_true (by omega)
            have hd : isD s[n] = true := by unfold isD; simp; omega
            have hA2 := HA.out
            rw [if_pos hd] at hA2
            have HA2 := Lib.hid hA2
            have q0 : (48 : Int) ≤ (s[n].toNat : Int) := by omega
            have q1 : (s[n].toNat : Int) ≤ 57 := by omega
            have Hq : Hid (48 ≤ s[n].toNat ∧ s[n].toNat ≤ 57) := Lib.hid ⟨h1, h2⟩
            clear hA2 HA hd h1 h2 hb
            go_wp2_with fail
            go_roundg g
            case measure => omega
            case rel => exact ⟨v * 10 + (s[n].toNat - 48), n + 1, by omega, by
                show Value.int .u64 _ = Value.int .u64 _
                congr 1
                have := Hq.out
                omega, by go_num, by omega, by
                show _ < _
                have h1 := hv.out
                have := Hq.out
                rw [Nat.pow_succ]
                omega, by
                show _ = _
                rw [← HA2.out]
                congr 1
                omega, by trivial⟩
          · have c2 : decide ((s[n].toNat : Int) ≤ 57) = false := decide_eq_false (by omega)
            have hd : isD s[n] = false := by unfold isD; simp; omega
            have hA2 := HA.out
            rw [if_neg (by rw [hd]; simp)] at hA2
            have hR : R = (n, v) := by rw [← hA2]; simp
            have HRv := Lib.hid hR
            clear hA2 HA hd h1 h2 hb hR
            go_wp2_with fail
            go_ret2
            rw [HRv.out]
            exact ⟨rfl, rfl⟩
        · have c1 : decide ((s[n].toNat : Int) ≥ 48) = false := decide_eq_false (by omega)
          have hd : isD s[n] = false := by unfold isD; simp; omega
          have hA2 := HA.out
          rw [if_neg (by rw [hd]; simp)] at hA2
          have hR : R = (n, v) := by rw [← hA2]; simp
          have HRv := Lib.hid hR
          clear hA2 HA hd h1 hb hR
          go_wp2_with fail
          go_ret2
          rw [HRv.out]
          exact ⟨rfl, rfl⟩
    · have n1 : ¬ (n : Int) < (s.size : Int) := by omega
      have hR : R = (n, v) := by
        rw [← hA.out, List.drop_of_length_le (by rw [size_list]; omega)]
        cases gk with
        | zero => unfold digN; simp
        | succ g => unfold digN; simp
      have HRv := Lib.hid hR
      clear hR hlt
      go_wp2_with fail
      go_ret2
      rw [HRv.out]
      exact ⟨rfl, rfl⟩
/-- The most that a field holds. -/
def most (c : UInt8) : Nat := if c = 67 then 65535 else if c = 84 then 255 else if c = 70 then 255 else 4294967295
def isF (c : UInt8) : Bool := c = 67 || c = 84 || c = 70 || c = 75
/-- A number, laid into its field. -/
def setF (i : Ins) (c : UInt8) (v : Nat) : Ins :=
  if c = 67 then { i with code := v % 65536 } else if c = 84 then { i with jt := v % 256 } else if c = 70 then { i with jf := v % 256 } else { i with k := v % 4294967296 }
theorem setF_ok {i : Ins} (h : InsOk i) (c : UInt8) (v : Nat) : InsOk (setF i c v) := by
  obtain ⟨h1, h2, h3, h4⟩ := h
  unfold setF
  split
  · exact ⟨by show v % 65536 ≤ _; omega, h2, h3, h4⟩
  · split
    · exact ⟨h1, by show v % 256 ≤ _; omega, h3, h4⟩
    · split
      · exact ⟨h1, h2, by show v % 256 ≤ _; omega, h4⟩
      · exact ⟨h1, h2, h3, by show v % 4294967296 ≤ _; omega⟩
/-- An instruction in a block of its own. -/
def InsAt (w : World) (b : Nat) (i : Ins) : Prop := w.heap[b]? = some (.cells #[.int .u16 i.code, .int .u8 i.jt, .int .u8 i.jf, .int .u32 i.k] 25 (0, 0))
theorem InsAt.cells {w : World} {b : Nat} {i : Ins} (h : InsAt w b i) : (w.cell? ⟨b, 0, none⟩ = some (.int .u16 i.code) ∧ w.cell? ⟨b, 1, none⟩ = some (.int .u8 i.jt) ∧ w.cell? ⟨b, 2, none⟩ = some (.int .u8 i.jf) ∧ w.cell? ⟨b, 3, none⟩ = some (.int .u32 i.k)) ∧
    (w.frozen? ⟨b, 0, none⟩ = false ∧ w.frozen? ⟨b, 1, none⟩ = false ∧ w.frozen? ⟨b, 2, none⟩ = false ∧ w.frozen? ⟨b, 3, none⟩ = false) ∧ b < w.heap.size :=
  ⟨⟨cell_of_row w b 0 _ _ _ h, cell_of_row w b 1 _ _ _ h, cell_of_row w b 2 _ _ _ h, cell_of_row w b 3 _ _ _ h⟩, ⟨frozen_of_row w b 0 _ _ h, frozen_of_row w b 1 _ _ h, frozen_of_row w b 2 _ _ h, frozen_of_row w b 3 _ _ h⟩, (Array.getElem?_eq_some_iff.1 h).1⟩
theorem InsAt.later {w W : World} {b : Nat} {i : Ins} (h : InsAt w b i) (hb : Below w.heap.size w W) : InsAt W b i := (hb.block b (Array.getElem?_eq_some_iff.1 h).1).trans h
theorem InsAt.put {w : World} {b : Nat} {i : Ins} (h : InsAt w b i) (c : UInt8) (v : Nat) (k : Nat) (x : Value) (hk : (#[.int .u16 i.code, .int .u8 i.jt, .int .u8 i.jf, .int .u32 i.k] : Array Value).setIfInBounds k x = #[.int .u16 (setF i c v).code, .int .u8 (setF i c v).jt, .int .u8 (setF i c v).jf, .int .u32 (setF i c v).k]) : InsAt (w.setCell ⟨b, k, none⟩ x) b (setF i c v) ∧ Below b w (w.setCell ⟨b, k, none⟩ x) :=
  ⟨by
    have := Joins.block_setCell (i := k) h x
    rw [hk] at this
    exact this, (Below.refl b w).setCell (p := ⟨b, k, none⟩) (Nat.le_refl _) x⟩
set_option maxRecDepth 100000 in
set_option maxHeartbeats 3200000 in
theorem put_any (b : Nat) (i : Ins) (c : UInt8) (v n : Nat) (w : World) (hi : InsAt w b i) (hc : isF c = true) (hv : v ≤ 100000000000) (hn : n ≤ 11) :
    Calls Tryd.prog 67 #[.pointer (some ⟨b, 0, none⟩), .int .u8 (c.toNat : Int), .int .u64 v, .int .i64 n] w fun e w' => e = .returned (.bool (decide (0 < n) && decide (v ≤ most c))) ∧ InsAt w' b (setF i c v) ∧ Below b w w' := by
  obtain ⟨⟨c0, c1, c2, c3⟩, ⟨f0, f1, f2, f3⟩, hlt⟩ := hi.cells
  have HI := Lib.hid hi
  have v0 : (0 : Int) ≤ (v : Int) := by omega
  have n0 : (0 : Int) ≤ (n : Int) := by omega
  clear hi hlt
  have hcc : c = 67 ∨ c = 84 ∨ c = 70 ∨ c = 75 := by
    unfold isF at hc
    simp at hc
    rcases hc with ((h | h) | h) | h
    · exact .inl h
    · exact .inr (.inl h)
    · exact .inr (.inr (.inl h))
    · exact .inr (.inr (.inr h))
  clear hc
  rcases hcc with rfl | rfl | rfl | rfl
  · have hm : most 67 = 65535 := by decide
    have hf : Hid (∀ x : Int, x = ((v % 65536 : Nat) : Int) → (#[.int .u16 i.code, .int .u8 i.jt, .int .u8 i.jf, .int .u32 i.k] : Array Value).setIfInBounds 0 (.int .u16 x) = #[.int .u16 (setF i 67 v).code, .int .u8 (setF i 67 v).jt, .int .u8 (setF i 67 v).jf, .int .u32 (setF i 67 v).k]) := Lib.hid fun x hx => by
      rw [hx]
      rfl
    rw [hm]
    clear hm
    have d2 : decide ((v : Int) ≤ 65535) = decide (v ≤ 65535) := by rw [decide_eq_decide]; omega
    obtain ⟨x, hx⟩ : ∃ x, decide (v ≤ 65535) = x := ⟨_, rfl⟩
    rw [hx] at d2
    rw [hx]
    clear hx
    by_cases hn0 : 0 < n
    · have d1 : (n : Int) > 0 := by omega
      rw [show decide (0 < n) = true from decide_eq_true hn0, Bool.true_and]
      clear hn0
      go_enter Tryd.func67, Tryd.ntmps67
      go_wp2_with fail
      go_ret
      exact ⟨by rfl, HI.out.put 67 v 0 _ (hf.out _ (by go_num))⟩
    · have d1 : ¬ (n : Int) > 0 := by omega
      rw [show decide (0 < n) = false from decide_eq_false hn0, Bool.false_and]
      clear hn0
      go_enter Tryd.func67, Tryd.ntmps67
      go_wp2_with fail
      go_ret
      exact ⟨by rfl, HI.out.put 67 v 0 _ (hf.out _ (by go_num))⟩
  · have hm : most 84 = 255 := by decide
    have hf : Hid (∀ x : Int, x = ((v % 256 : Nat) : Int) → (#[.int .u16 i.code, .int .u8 i.jt, .int .u8 i.jf, .int .u32 i.k] : Array Value).setIfInBounds 1 (.int .u8 x) = #[.int .u16 (setF i 84 v).code, .int .u8 (setF i 84 v).jt, .int .u8 (setF i 84 v).jf, .int .u32 (setF i 84 v).k]) := Lib.hid fun x hx => by
      rw [hx]
      rfl
    rw [hm]
    clear hm
    have d2 : decide ((v : Int) ≤ 255) = decide (v ≤ 255) := by rw [decide_eq_decide]; omega
    obtain ⟨x, hx⟩ : ∃ x, decide (v ≤ 255) = x := ⟨_, rfl⟩
    rw [hx] at d2
    rw [hx]
    clear hx
    by_cases hn0 : 0 < n
    · have d1 : (n : Int) > 0 := by omega
      rw [show decide (0 < n) = true from decide_eq_true hn0, Bool.true_and]
      clear hn0
      go_enter Tryd.func67, Tryd.ntmps67
      go_wp2_with fail
      go_ret
      exact ⟨by rfl, HI.out.put 84 v 1 _ (hf.out _ (by go_num))⟩
    · have d1 : ¬ (n : Int) > 0 := by omega
      rw [show decide (0 < n) = false from decide_eq_false hn0, Bool.false_and]
      clear hn0
      go_enter Tryd.func67, Tryd.ntmps67
      go_wp2_with fail
      go_ret
      exact ⟨by rfl, HI.out.put 84 v 1 _ (hf.out _ (by go_num))⟩
  · have hm : most 70 = 255 := by decide
    have hf : Hid (∀ x : Int, x = ((v % 256 : Nat) : Int) → (#[.int .u16 i.code, .int .u8 i.jt, .int .u8 i.jf, .int .u32 i.k] : Array Value).setIfInBounds 2 (.int .u8 x) = #[.int .u16 (setF i 70 v).code, .int .u8 (setF i 70 v).jt, .int .u8 (setF i 70 v).jf, .int .u32 (setF i 70 v).k]) := Lib.hid fun x hx => by
      rw [hx]
      rfl
    rw [hm]
    clear hm
    have d2 : decide ((v : Int) ≤ 255) = decide (v ≤ 255) := by rw [decide_eq_decide]; omega
    obtain ⟨x, hx⟩ : ∃ x, decide (v ≤ 255) = x := ⟨_, rfl⟩
    rw [hx] at d2
    rw [hx]
    clear hx
    by_cases hn0 : 0 < n
    · have d1 : (n : Int) > 0 := by omega
      rw [show decide (0 < n) = true from decide_eq_true hn0, Bool.true_and]
      clear hn0
      go_enter Tryd.func67, Tryd.ntmps67
      go_wp2_with fail
      go_ret
      exact ⟨by rfl, HI.out.put 70 v 2 _ (hf.out _ (by go_num))⟩
    · have d1 : ¬ (n : Int) > 0 := by omega
      rw [show decide (0 < n) = false from decide_eq_false hn0, Bool.false_and]
      clear hn0
      go_enter Tryd.func67, Tryd.ntmps67
      go_wp2_with fail
      go_ret
      exact ⟨by rfl, HI.out.put 70 v 2 _ (hf.out _ (by go_num))⟩
  · have hm : most 75 = 4294967295 := by decide
    have hf : Hid (∀ x : Int, x = ((v % 4294967296 : Nat) : Int) → (#[.int .u16 i.code, .int .u8 i.jt, .int .u8 i.jf, .int .u32 i.k] : Array Value).setIfInBounds 3 (.int .u32 x) = #[.int .u16 (setF i 75 v).code, .int .u8 (setF i 75 v).jt, .int .u8 (setF i 75 v).jf, .int .u32 (setF i 75 v).k]) := Lib.hid fun x hx => by
      rw [hx]
      rfl
    rw [hm]
    clear hm
    have d2 : decide ((v : Int) ≤ 4294967295) = decide (v ≤ 4294967295) := by rw [decide_eq_decide]; omega
    obtain ⟨x, hx⟩ : ∃ x, decide (v ≤ 4294967295) = x := ⟨_, rfl⟩
    rw [hx] at d2
    rw [hx]
    clear hx
    by_cases hn0 : 0 < n
    · have d1 : (n : Int) > 0 := by omega
      rw [show decide (0 < n) = true from decide_eq_true hn0, Bool.true_and]
      clear hn0
      go_enter Tryd.func67, Tryd.ntmps67
      go_wp2_with fail
      go_ret
      exact ⟨by rfl, HI.out.put 75 v 3 _ (hf.out _ (by go_num))⟩
    · have d1 : ¬ (n : Int) > 0 := by omega
      rw [show decide (0 < n) = false from decide_eq_false hn0, Bool.false_and]
      clear hn0
      go_enter Tryd.func67, Tryd.ntmps67
      go_wp2_with fail
      go_ret
      exact ⟨by rfl, HI.out.put 75 v 3 _ (hf.out _ (by go_num))⟩
end Go.Proofs.YtckbcmoanadckaaDoor
