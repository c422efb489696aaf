/- The document's own small functions: between, wantsTruth, Truth, Weigh, Weight, Long, Arith. -/
import Derived.Test.YtedhlofmkehfkaaRefParts
namespace Go.Proofs.Ytedhlofmkehfkaa
open Go.RowKit Go.Shelf
set_option linter.unusedVariables false
set_option linter.unusedSimpArgs false

theorem between_any (x lo hi : Int) (w : World) : Calls Try.prog 86 #[.int .i64 x, .int .i64 lo, .int .i64 hi] w fun e w' => e = .returned (.bool (inR x lo hi)) ∧ w = w' := by
  by_cases h1 : lo ≤ x <;> by_cases h2 : x ≤ hi
  all_goals
    go_enter Try.func86, Try.ntmps86
    go_wp2
    all_goals first | (exfalso; omega) | (go_ret; exact ⟨by simp [inR, h1, h2], rfl⟩)
theorem wants_any (k : Int) (w : World) : Calls Try.prog 72 #[.int .i64 k] w fun e w' => e = .returned (.bool (wantsK k)) ∧ w = w' := by
  by_cases h7 : k = 7
  · subst h7
    go_enter Try.func72, Try.ntmps72
    go_wp2
    go_ret
    exact ⟨rfl, rfl⟩
  by_cases h8 : k = 8
  · subst h8
    go_enter Try.func72, Try.ntmps72
    go_wp2
    go_ret
    exact ⟨rfl, rfl⟩
  have h7' : (k == 7) = false := by simpa using h7
  have h8' : (k == 8) = false := by simpa using h8
  have hw : wantsK k = decide (k = 9) := by
    unfold wantsK
    simp [h7, h8]
  have Hw := Lib.hid hw
  clear h7 h8 hw
  go_enter Try.func72, Try.ntmps72
  go_wp2
  go_ret
  rw [Hw.out]
  refine ⟨?_, rfl⟩
  by_cases h9 : k = 9 <;> simp [h9]
theorem truth_any (k : Int) (w : World) : Calls Try.prog 73 #[.int .i64 k] w fun e w' => e = .returned (.bool (truthK k)) ∧ w = w' := by
  go_enter Try.func73, Try.ntmps73
  go_wp2
  go_ret
  exact ⟨rfl, rfl⟩
theorem long_any (o : Int) (w : World) : Calls Try.prog 87 #[.int .i64 o] w fun e w' => e = .returned (.int .i64 (if o = 3 then 16 else 4)) ∧ w = w' := by
  by_cases h : o = 3
  · subst h
    go_enter Try.func87, Try.ntmps87
    go_wp2
    go_ret
    exact ⟨rfl, rfl⟩
  · have h' : (o == 3) = false := by simpa using h
    rw [if_neg h]
    clear h
    go_enter Try.func87, Try.ntmps87
    go_wp2
    go_ret
    exact ⟨rfl, rfl⟩
set_option maxRecDepth 100000 in
set_option maxHeartbeats 1600000 in
theorem weigh_any (n : Node) (w : World) : Calls Try.prog 27 #[.agg (enc n)] w fun e w' => e = .returned (.int .i64 (weightI n.kind n)) ∧ w.alloc (.cells (enc n) 40) = w' := by
  go_enter Try.func27, Try.ntmps27
  go_wp2
  all_goals
    go_ret
    refine ⟨?_, rfl⟩
    simp only [beq_iff_eq, beq_eq_false_iff_ne, ne_eq] at *
    simp [weightI, byI, *]
set_option maxRecDepth 100000 in
set_option maxHeartbeats 1600000 in
theorem arith_any (op a b : Int) (ha : isU32 a) (hb : isU32 b) (ho : 1 ≤ op ∧ op ≤ 10) (hz : op = 4 ∨ op = 5 → b ≠ 0) (w : World) : Calls Try.prog 74 #[.int .i64 op, .int .u32 a, .int .u32 b] w fun e w' => e = .returned (.tuple #[.int .u32 (reckon op a b), .bool true]) ∧ w = w' := by
  obtain ⟨ha0, ha1⟩ := ha
  obtain ⟨hb0, hb1⟩ := hb
  have hk : op = 1 ∨ op = 2 ∨ op = 3 ∨ op = 4 ∨ op = 5 ∨ op = 6 ∨ op = 7 ∨ op = 8 ∨ op = 9 ∨ op = 10 := by omega
  clear ho
  rcases hk with rfl | rfl | rfl | rfl | rfl | rfl | rfl | rfl | rfl | rfl
  case inr.inr.inr.inl =>
    have hbp : 1 ≤ b := by have := hz (.inl rfl); omega
    clear hz
    go_enter Try.func74, Try.ntmps74
    go_wp2
    go_ret2
    exact ⟨by simp [reckon], rfl⟩
  case inr.inr.inr.inr.inl =>
    have hbp : 1 ≤ b := by have := hz (.inr rfl); omega
    clear hz
    go_enter Try.func74, Try.ntmps74
    go_wp2
    go_ret2
    exact ⟨by simp [reckon], rfl⟩
  all_goals
    clear hz
    by_cases h32 : b < 32
    · go_enter Try.func74, Try.ntmps74
      go_wp2
      go_ret2
      have e : min b.toNat 32 = b.toNat := by omega
      exact ⟨by simp [reckon, e], rfl⟩
    · have h31 : 31 < b := by omega
      go_enter Try.func74, Try.ntmps74
      go_wp2
      go_ret2
      have e : min b.toNat 32 = 32 := by omega
      have e2 : a * 4294967296 % 4294967296 = 0 := by omega
      have e3 : a / 4294967296 = 0 := by omega
      exact ⟨by simp [reckon, e, e2, e3], rfl⟩
set_option maxRecDepth 100000 in
set_option maxHeartbeats 1600000 in
theorem refweight_any (A : Option Addr) (c : Nat) (ns : List Node) (w : World) (hA : Ns w A ns) (hnl : ns.length ≤ 2000000000000) :
    Calls Try.prog 19 #[.slice A ns.length c] w fun e w' => e = .returned (.int .i64 (weightT ns)) ∧ Below w.heap.size w w' := by
  have HA := Lib.hid hA
  clear hA
  go_enter Try.func19, Try.ntmps19
  go_wp2_with fail
  go_loopw [4, 3] (fun x y wr => ∃ (i : Nat), i ≤ ns.length ∧ x = .int .i64 i ∧ y = .int .i64 (weightT (ns.take i)) ∧ Below w.heap.size w wr) (fun x _ _ => ns.length - (intOf x).toNat)
  case atStart => exact ⟨0, by omega, rfl, rfl, Below.refl _ _⟩
  case round =>
    obtain ⟨i, hi, rfl, rfl, hB⟩ := hrel
    have HB := Lib.hid hB
    clear hB
    by_cases hlt : i < ns.length
    · obtain ⟨b, o, rfl, hn⟩ := (HA.out.later HB.out) (by omega)
      have h1 := hn i hlt
      obtain ⟨n, hnn⟩ : ∃ n, ns.getD i Node.zero = n := ⟨_, rfl⟩
      rw [hnn] at h1
      have hw := weightT_range (ns.take i)
      have hl : (ns.take i).length ≤ 2000000000000 := by rw [List.length_take]; omega
      have htake : weightT (ns.take (i + 1)) = weightT (ns.take i) + weightI n.kind n := by
        rw [take_succ_node hlt, hnn]
        simp [weightT]
      obtain ⟨s, hs⟩ : ∃ s, weightT (ns.take i) = s := ⟨_, rfl⟩
      rw [hs] at hw htake ⊢
      have hs0 := hw.1
      have hs1 : s ≤ 80 * 2000000000000 := by omega
      have hwr := weightI_range n.kind n
      obtain ⟨wt, hwt⟩ : ∃ x, weightI n.kind n = x := ⟨_, rfl⟩
      rw [hwt] at hwr htake
      have Htake := Lib.hid htake
      have Hwt := Lib.hid hwt
      obtain ⟨hw0, hw1⟩ := hwr
      have i2 : (0 : Int) ≤ (i : Int) := by omega
      have i3 : (i : Int) < (ns.length : Int) := by omega
      clear hn hnn hw hl htake hs hwt
      go_wp2_with fail
      refine (weigh_any n _).mono ?_
      rw [Hwt.out]
      rintro e w2 ⟨rfl, rfl⟩
      go_wp2_with fail
      go_round
      case rel => exact ⟨i + 1, by omega, by go_num, by rw [Htake.out], HB.out.alloc HB.out.size _⟩
      case measure => simp [intOf]; omega
    · have hie : ns.take i = ns := List.take_of_length_le (by omega)
      have hi1 : ¬ (i : Int) < (ns.length : Int) := by omega
      rw [hie]
      clear hie
      go_wp2_with fail
      go_ret
      exact ⟨rfl, HB.out⟩
end Go.Proofs.Ytedhlofmkehfkaa
