/- Package tree: Arity, Starts. -/
import Derived.Test.YtedhlofmkehfkaaBytes
import Derived.Deep.OwnRows
import Derived.Maps.AppendAt
namespace Go.Proofs.Ytedhlofmkehfkaa
open Go.RowKit
set_option linter.unusedVariables false
set_option linter.unusedSimpArgs false

/-- How many parts a node of a kind has. -/
def arityK (k : Int) : Option Nat :=
  if k = 1 ∨ k = 2 ∨ k = 10 ∨ k = 11 ∨ k = 12 ∨ k = 13 ∨ k = 14 ∨ k = 15 ∨ k = 16 then some 0
  else if k = 3 ∨ k = 5 ∨ k = 9 then some 1
  else if k = 4 ∨ k = 6 ∨ k = 7 ∨ k = 8 then some 2 else none
theorem arityK_range {k : Int} {a : Nat} (h : arityK k = some a) : 1 ≤ k ∧ k ≤ 16 ∧ a ≤ 2 := by
  unfold arityK at h
  split at h
  · cases h; omega
  · split at h
    · cases h; omega
    · split at h
      · cases h; omega
      · cases h
theorem arity_any (k : Int) (w : World) : Calls Try.prog 34 #[.int .i64 k] w fun e w' => e = .returned (.tuple #[.int .i64 (((arityK k).getD 0 : Nat) : Int), .bool (arityK k).isSome]) ∧ w = w' := by
  go_enter Try.func34, Try.ntmps34
  go_wp2
  all_goals
    go_ret2
    refine ⟨?_, rfl⟩
    simp only [beq_iff_eq, beq_eq_false_iff_ne, ne_eq] at *
    simp [arityK, *]

/-- Where the parts of a node begin: k steps down. -/
def downs (st : List Int) : Nat → Int → Option Int
  | 0, at_ => some at_
  | k + 1, at_ => if at_ = 0 then none else downs st k (st.getD (at_.toNat - 1) 0)
/-- No tree begins behind its root. -/
def StartsOk (st : List Int) : Prop := ∀ i, i < st.length → 0 ≤ st.getD i 0 ∧ st.getD i 0 ≤ i
theorem downs_range {st : List Int} (h : StartsOk st) : ∀ (k : Nat) (at_ r : Int), 0 ≤ at_ → at_ ≤ st.length → downs st k at_ = some r → 0 ≤ r ∧ r ≤ at_
  | 0, at_, r, h0, h1, e => by
    simp only [downs, Option.some.injEq] at e
    omega
  | k + 1, at_, r, h0, h1, e => by
    simp only [downs] at e
    split at e
    · cases e
    · rename_i hne
      have := h (at_.toNat - 1) (by omega)
      have := downs_range h k _ r this.1 (by omega) e
      omega
theorem StartsOk.snoc {st : List Int} (h : StartsOk st) {r : Int} (h0 : 0 ≤ r) (h1 : r ≤ st.length) : StartsOk (st ++ [r]) := by
  intro i hi
  by_cases hl : i < st.length
  · have e : (st ++ [r]).getD i 0 = st.getD i 0 := by simp [List.getD_eq_getElem?_getD, List.getElem?_append_left hl]
    rw [e]
    exact h i hl
  · have : i = st.length := by simp at hi; omega
    subst this
    simp [List.getD_eq_getElem?_getD]
    exact ⟨h0, h1⟩
/-- Slices of ints that a call has made. -/
def OwnI (w : World) (base : Nat) (v : Value) (st : List Int) : Prop := w.ownsRow base 3 1 v st.length (nums .i64 st)
theorem OwnI.form {w : World} {base : Nat} {v : Value} {st : List Int} (h : OwnI w base v st) : ∃ A c, v = .slice A st.length c ∧ (0 < st.length → ∃ g, A = some ⟨g, 0, none⟩ ∧ base ≤ g ∧ ∀ j, j < st.length → w.cell? ⟨g, j, none⟩ = some (.int .i64 (st.getD j 0))) := by
  have h0 := h
  rcases h.2 with ⟨rfl, e⟩ | ⟨g, cap, cur, rfl, hb, hh, _⟩
  · exact ⟨none, 0, by rw [e], fun hp => by omega⟩
  · refine ⟨_, _, rfl, fun hp => ⟨g, rfl, hb, fun j hj => ?_⟩⟩
    have := World.ownsRow.cells h0 (g := g) rfl j _ (nums_get .i64 st j hj)
    rwa [show (⟨g, 0, none⟩ : Addr).add j = ⟨g, j, none⟩ from by unfold Addr.add; split <;> simp_all] at this
theorem left_any (A : Option Addr) (n c : Nat) (g : Nat) (st : List Int) (at_ : Int) (w : World) (hA : A = some ⟨g, 0, none⟩) (hc : ∀ j, j < st.length → w.cell? ⟨g, j, none⟩ = some (.int .i64 (st.getD j 0))) (hn : n = st.length) (h0 : 1 ≤ at_) (h1 : at_ ≤ st.length)
    (hr0 : 0 ≤ st.getD (at_.toNat - 1) 0) (hr1 : st.getD (at_.toNat - 1) 0 ≤ 4611686018427387904) (hr2 : (n : Int) ≤ 4611686018427387904) :
    Calls Try.prog 35 #[.slice A n c, .int .i64 at_] w fun e w' => e = .returned (.int .i64 (st.getD (at_.toNat - 1) 0 - 1)) ∧ w = w' := by
  subst hA
  have hcell := hc (at_.toNat - 1) (by omega)
  obtain ⟨x, hx⟩ : ∃ x, st.getD (at_.toNat - 1) 0 = x := ⟨_, rfl⟩
  rw [hx] at hcell hr0 hr1 ⊢
  have hlt : at_ - 1 < (n : Int) := by omega
  have h00 : 0 ≤ at_ - 1 := by omega
  have hle : at_ ≤ (n : Int) := by omega
  clear hc hx h1 hn
  go_enter Try.func35, Try.ntmps35
  go_wp2
  go_ret
  exact ⟨rfl, rfl⟩
theorem right_any (v : Value) (at_ : Int) (w : World) (h0 : 0 ≤ at_) (h1 : at_ ≤ 4611686018427387904) :
    Calls Try.prog 76 #[v, .int .i64 at_] w fun e w' => e = .returned (.int .i64 (at_ - 1)) ∧ w = w' := by
  go_enter Try.func76, Try.ntmps76
  go_wp2
  go_ret
  exact ⟨rfl, rfl⟩
/-- Add, where a node finds its parts: one more start; where it does not: nothing. -/
def addL (st : List Int) (a : Nat) : Option (List Int) := (downs st a st.length).map fun r => st ++ [r]
theorem add_no (base : Nat) (v : Value) (st : List Int) (a : Nat) (w : World) (hv : OwnI w base v st) (hs : StartsOk st) (ha : a ≤ 2) (hn : st.length ≤ 4611686018427387904) (hno : addL st a = none) :
    Calls Try.prog 70 #[v, .int .i64 (a : Int)] w fun e w' => e = .returned (.tuple #[v, .bool false]) ∧ w = w' := by
  obtain ⟨A, c, rfl, hA⟩ := hv.form
  have hD : downs st a st.length = none := by simpa [addL] using hno
  go_enter Try.func70, Try.ntmps70
  go_wp2
  go_loop [6, 7] (fun x k => ∃ (i : Nat) (at_ : Int), i ≤ a ∧ k = .int .i64 i ∧ x = .int .i64 at_ ∧ 0 ≤ at_ ∧ at_ ≤ st.length ∧ downs st (a - i) at_ = none) (fun _ k => a - (intOf k).toNat)
  case atStart => exact ⟨0, st.length, by omega, rfl, rfl, by omega, by omega, hD⟩
  case round =>
    obtain ⟨i, at_, hi, rfl, rfl, h0, h1, hd⟩ := hrel
    have hia : i < a := by
      by_cases h : i < a
      · exact h
      · rw [show a - i = 0 from by omega] at hd
        simp [downs] at hd
    obtain ⟨m, hm⟩ : ∃ m, a - i = m + 1 := ⟨a - i - 1, by omega⟩
    rw [hm] at hd
    simp only [downs] at hd
    by_cases hz : at_ = 0
    · subst hz
      clear hd hD hno hm
      go_wp2
      go_ret2
      exact ⟨rfl, rfl⟩
    · rw [if_neg hz] at hd
      have hpos : 1 ≤ at_ := by omega
      obtain ⟨g, rfl, hg, hc⟩ := hA (by omega)
      have hcell := hc (at_.toNat - 1) (by omega)
      have hr := hs (at_.toNat - 1) (by omega)
      rw [List.getD_eq_getElem?_getD] at hr
      have HD := Lib.hid hd
      have Hm := Lib.hid hm
      have hle : at_ ≤ (st.length : Int) := h1
      clear hd hD hno hm hA hc hv hs
      go_wp2
      go_round
      case rel => exact ⟨i + 1, _, by omega, by go_num, rfl, hr.1, by omega, by rw [show a - (i + 1) = m from by have := Hm.out; omega]; exact HD.out⟩
      case measure => simp [intOf]; omega
set_option maxHeartbeats 400000 in
theorem add_yes (base : Nat) (v : Value) (st st2 : List Int) (a : Nat) (w : World) (hv : OwnI w base v st) (hs : StartsOk st) (ha : a ≤ 2) (hn : st.length + 1 ≤ 17592186044416) (hbase : base ≤ w.heap.size) (hyes : addL st a = some st2) :
    Calls Try.prog 70 #[v, .int .i64 (a : Int)] w fun e w' => ∃ v2, e = .returned (.tuple #[v2, .bool true]) ∧ OwnI w' base v2 st2 ∧ w.grownBy w' v.ownBlock ∧ (v2.ownBlock = v.ownBlock ∨ ∃ b, v2.ownBlock = some b ∧ w.heap.size ≤ b) ∧ StartsOk st2 := by
  obtain ⟨A, c, rfl, hA⟩ := hv.form
  obtain ⟨r, hD, rfl⟩ : ∃ r, downs st a st.length = some r ∧ st ++ [r] = st2 := by simpa [addL] using hyes
  have hrr := downs_range hs a _ r (by omega) (by omega) hD
  have hsn := hs.snoc hrr.1 (by omega)
  obtain ⟨i0, hi, hz0, hz1, hz2⟩ := info_parts (show (Try.prog.info? 3).map (fun i => (i.zero, i.size, i.bytes)) = some (some (.int .i64 0), 1, 8) by kernel_rfl)
  have HV := Lib.hid hv
  have HS := Lib.hid hsn
  have hs' := Lib.hid hs
  clear hv hsn hs
  go_enter Try.func70, Try.ntmps70
  go_wp2
  go_loop [6, 7] (fun x k => ∃ (i : Nat) (at_ : Int), i ≤ a ∧ k = .int .i64 i ∧ x = .int .i64 at_ ∧ 0 ≤ at_ ∧ at_ ≤ st.length ∧ downs st (a - i) at_ = some r) (fun _ k => a - (intOf k).toNat)
  case atStart => exact ⟨0, st.length, by omega, rfl, rfl, by omega, by omega, hD⟩
  case round =>
    obtain ⟨i, at_, hi2, rfl, rfl, h0, h1, hd⟩ := hrel
    by_cases hia : i < a
    · obtain ⟨m, hm⟩ : ∃ m, a - i = m + 1 := ⟨a - i - 1, by omega⟩
      rw [hm] at hd
      simp only [downs] at hd
      by_cases hz : at_ = 0
      · rw [if_pos hz] at hd
        cases hd
      · rw [if_neg hz] at hd
        have hpos : 1 ≤ at_ := by omega
        obtain ⟨g, rfl, hg, hc⟩ := hA (by omega)
        have hcell := hc (at_.toNat - 1) (by omega)
        have hr := hs'.out (at_.toNat - 1) (by omega)
        rw [List.getD_eq_getElem?_getD] at hr
        have HD := Lib.hid hd
        have Hm := Lib.hid hm
        have hle : at_ ≤ (st.length : Int) := h1
        clear hd hD hyes hm hA hc hi hz0 hz1 hz2
        go_wp2
        go_round
        case rel => exact ⟨i + 1, _, by omega, by go_num, rfl, hr.1, by omega, by rw [show a - (i + 1) = m from by have := Hm.out; omega]; exact HD.out⟩
        case measure => simp [intOf]; omega
    · rw [show a - i = 0 from by omega] at hd
      simp only [downs, Option.some.injEq] at hd
      subst hd
      have Hz := Lib.hid hz0
      have H1 := Lib.hid hz1
      have H2 := Lib.hid hz2
      clear hD hyes hA hz0 hz1 hz2
      go_wp2_with (at_builtin; refine wpList_append_own_at _ rfl _ _ 58 rfl base 3 i0 (.int .i64 0) 1 8 Try.underlying58 hi Hz.out H1.out H2.out rfl (by decide) _ _ _ rfl (HV.out.alloc _) ⟨w.heap.size, 0, none⟩ 1 1 [.int .i64 at_] rfl rfl (cell_one_new _ _ _) (by simp [Value.oneCell']) (by simp only [maxLen]; omega) (by omega) (by simp; omega) ?_; intro v2 w2 hown hgrow _ hat)
      go_ret2
      refine ⟨v2, rfl, ?_, ?_, ?_, HS.out⟩
      · simpa [OwnI, nums] using hown
      · exact World.grownBy.trans (World.grownBy_alloc w _ _) hgrow
      · rcases hat with h | h
        · exact .inl h
        · exact .inr ⟨_, h, by simp⟩
end Go.Proofs.Ytedhlofmkehfkaa
