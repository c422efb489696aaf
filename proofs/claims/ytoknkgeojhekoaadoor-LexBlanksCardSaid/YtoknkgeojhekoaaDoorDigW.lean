/- Numbers' texts: the law's decimal and hex. -/
import Derived.Test.YtoknkgeojhekoaaDoorDig
namespace Go.Proofs.YtoknkgeojhekoaaDoor
open Go.RowKit Go.Shelf
set_option linter.unusedVariables false
set_option linter.unusedSimpArgs false

theorem conv_int (c : Int) (b : UInt8) (h : c = (b.toNat : Int)) (W : World) : (convert 34 9 (.slice (some ⟨W.heap.size, 0, none⟩) 1 1)).run Tryd.prog (W.alloc (.cells #[.int .u8 c] 5)) = .ok (.string ⟨#[b]⟩) (W.alloc (.cells #[.int .u8 c] 5)) := by
  subst h
  exact conv_one W b
def bs (l : List UInt8) : ByteArray := ⟨l.toArray⟩
theorem bs_size (l : List UInt8) : (bs l).size = l.length := by
  show l.toArray.size = _
  simp
theorem bs_list (l : List UInt8) : (bs l).data.toList = l := by simp [bs]
theorem bs_append (a b : List UInt8) : bs a ++ bs b = bs (a ++ b) := by
  apply ByteArray.ext
  apply Array.toList_inj.1
  rw [append_list, bs_list, bs_list, bs_list]
theorem digs_len (h : Bool) : ∀ (f n : Nat), (digs h f n).length ≤ f
  | 0, n => Nat.le_refl _
  | f + 1, n => by
    unfold digs
    split
    · exact Nat.zero_le _
    · rw [List.length_append]
      have := digs_len h f (n / baseN h)
      simp
      omega
/-- What the loop has still to lay ahead. -/
def toGo (h : Bool) (f n : Nat) : Bool → List UInt8
  | true => digs1 h f n
  | false => digs h f n
theorem toGo_step (h : Bool) (f n : Nat) (first : Bool) (hc : first = true ∨ 0 < n) : toGo h (f + 1) n first = toGo h f (n / baseN h) false ++ [chr (n % baseN h)] := by
  show toGo h (f + 1) n first = digs h f (n / baseN h) ++ [chr (n % baseN h)]
  by_cases h0 : n = 0
  · subst h0
    rcases hc with rfl | hc
    · show digs1 h (f + 1) 0 = _
      rw [Nat.zero_div, Nat.zero_mod]
      unfold digs1
      rw [if_pos rfl]
      cases f with
      | zero => rfl
      | succ f => rfl
    · omega
  · have e : digs h (f + 1) n = digs h f (n / baseN h) ++ [chr (n % baseN h)] := by
      conv => lhs; unfold digs
      rw [if_neg h0]
    cases first with
    | true =>
      show digs1 h (f + 1) n = _
      unfold digs1
      rw [if_neg h0]
      exact e
    | false => exact e
theorem toGo_end (h : Bool) (f : Nat) : toGo h f 0 false = [] := by
  show digs h f 0 = []
  cases f with
  | zero => rfl
  | succ f => rfl
theorem add_bs (b : UInt8) (l : List UInt8) (h : l.length ≤ 1000) (W : World) : (Op.stringOp .add ⟨#[b]⟩ (bs l)).run Tryd.prog W = .ok (.string (bs (b :: l))) W :=
  add_strs (by rw [bs_size, one_size]; omega) (by rw [show (⟨#[b]⟩ : ByteArray) = bs [b] from rfl, bs_append]; rfl) W
set_option maxRecDepth 100000 in
theorem decimal_any (n : Nat) (w : World) (hn : n < 1099511627776) : Calls Tryd.prog 16 #[.int .u64 n] w fun e w' => e = .returned (.string (bs (decL n))) ∧ Below w.heap.size w w' := by
  obtain ⟨RES, hRES⟩ : ∃ r, decL n = r := ⟨_, rfl⟩
  rw [hRES]
  have HR := Lib.hid hRES
  have Hn := Lib.hid hn
  clear hRES hn
  go_enter Tryd.func16, Tryd.ntmps16
  go_wp2_with fail
  go_loopg [0, 3, 4] 40 (fun g s0 s3 s4 wr => ∃ (k : Nat) (first : Bool) (l : List UInt8), s0 = .int .u64 k ∧ s3 = .string (bs l) ∧ s4 = .bool first ∧ k < 2 ^ g ∧ l.length + g ≤ 40 ∧ (first = true → g = 40) ∧ Aside (toGo false g k first ++ l = RES) ∧ Below w.heap.size w wr)
  case atStart => exact ⟨n, true, [], rfl, rfl, rfl, Hn.out, by simp, (fun _ => rfl), by show _ = _; rw [List.append_nil]; exact HR.out, Below.refl _ _⟩
  case round =>
    obtain ⟨k, first, l, rfl, rfl, rfl, hk, hl, hf, hA, hB⟩ := hrel
    have Hk := Lib.hid hk
    have HB := Lib.hid hB
    have HS := Lib.hid hB.size
    have Hf := Lib.hid hf
    clear hk hB hf
    by_cases hgo : first = true ∨ 0 < k
    · cases gk with
      | zero =>
        exfalso
        have hk := Hk.out
        have hk : k = 0 := by simpa using hk
        rcases hgo with h | h
        · have := Hf.out h
          omega
        · omega
      | succ g =>
        have hstep := toGo_step false g k first hgo
        have hmod : k % 10 < 10 := Nat.mod_lt _ (by decide)
        have kc := fun W => conv_int (48 + (k : Int) % 10) (chr (k % 10)) (by
          rw [chr_nat (by omega), if_pos hmod]
          push_cast
          rfl) W
        have ka := fun W => add_bs (chr (k % 10)) l (by omega) W
        have hdiv : k / 10 < 2 ^ g := by
          have hk := Hk.out
          rw [Nat.pow_succ] at hk
          omega
        have Hst := Lib.hid hstep
        have Hdv := Lib.hid hdiv
        have hkm : (k : Int) ≤ 1099511627776 := by
          have h1 := Hk.out
          have h2 : 2 ^ (g + 1) ≤ 2 ^ 40 := Nat.pow_le_pow_right (by decide) (by omega)
          have h3 : (2 : Nat) ^ 40 = 1099511627776 := by decide
          omega
        have hk0 : (0 : Int) ≤ (k : Int) := by omega
        clear hstep hdiv hmod
        cases first with
        | true =>
            clear hgo
            go_wp2_with fail
            go_roundg g
            case measure => omega
            case rel => exact ⟨k / 10, false, chr (k % 10) :: l, by go_num, rfl, rfl, Hdv.out, by rw [List.length_cons]; omega, (fun h => by cases h), by
                show _ = _
                rw [← hA.out, Hst.out, List.append_assoc]
                rfl, HB.out.alloc HS.out _⟩
        | false =>
            have hk1 : 0 < k := by
              rcases hgo with h | h
              · cases h
              · exact h
            have hk2 : decide (0 < k) = true := decide_eq_true hk1
            clear hgo hk1
            go_wp2_with fail
            go_roundg g
            case measure => omega
            case rel => exact ⟨k / 10, false, chr (k % 10) :: l, by go_num, rfl, rfl, Hdv.out, by rw [List.length_cons]; omega, (fun h => by cases h), by
                show _ = _
                rw [← hA.out, Hst.out, List.append_assoc]
                rfl, HB.out.alloc HS.out _⟩
    · have hff : first = false := by
        cases first with
        | true => exact absurd (.inl rfl) hgo
        | false => rfl
      have hk0 : k = 0 := by
        rcases Nat.eq_zero_or_pos k with h | h
        · exact h
        · exact absurd (.inr h) hgo
      subst hff
      subst hk0
      have hl2 : l = RES := by
        have h := hA.out
        rw [toGo_end] at h
        exact h
      have Hl2 := Lib.hid hl2
      clear hgo hl2
      go_wp2_with fail
      go_ret
      rw [Hl2.out]
      exact ⟨rfl, HB.out⟩
theorem hex_piece (d : Nat) (h : d < 16) : (⟨#[48, 49, 50, 51, 52, 53, 54, 55, 56, 57, 97, 98, 99, 100, 101, 102]⟩ : ByteArray).extract d (d + 1) = ⟨#[chr d]⟩ := by
  have h0 : ∀ d : Fin 16, ((⟨#[48, 49, 50, 51, 52, 53, 54, 55, 56, 57, 97, 98, 99, 100, 101, 102]⟩ : ByteArray).extract d.val (d.val + 1)).data.toList = [chr d.val] := by decide
  apply ByteArray.ext
  apply Array.toList_inj.1
  exact h0 ⟨d, h⟩
set_option maxRecDepth 100000 in
theorem hexs_any (n : Nat) (w : World) (hn : n < 1099511627776) : Calls Tryd.prog 17 #[.int .u64 n] w fun e w' => e = .returned (.string (bs (hexL n))) ∧ Below w.heap.size w w' := by
  obtain ⟨RES, hRES⟩ : ∃ r, digs1 true 40 n = r := ⟨_, rfl⟩
  unfold hexL
  rw [hRES]
  have HR := Lib.hid hRES
  have Hn := Lib.hid hn
  clear hRES hn
  go_enter Tryd.func17, Tryd.ntmps17
  go_wp2_with fail
  go_loopg [0, 3, 4] 40 (fun g s0 s3 s4 wr => ∃ (k : Nat) (first : Bool) (l : List UInt8), s0 = .int .u64 k ∧ s3 = .string (bs l) ∧ s4 = .bool first ∧ k < 2 ^ g ∧ l.length + g ≤ 40 ∧ (first = true → g = 40) ∧ Aside (toGo true g k first ++ l = RES) ∧ Below w.heap.size w wr)
  case atStart => exact ⟨n, true, [], rfl, rfl, rfl, Hn.out, by simp, (fun _ => rfl), by show _ = _; rw [List.append_nil]; exact HR.out, Below.refl _ _⟩
  case round =>
    obtain ⟨k, first, l, rfl, rfl, rfl, hk, hl, hf, hA, hB⟩ := hrel
    have Hk := Lib.hid hk
    have HB := Lib.hid hB
    have HS := Lib.hid hB.size
    have Hf := Lib.hid hf
    clear hk hB hf
    by_cases hgo : first = true ∨ 0 < k
    · cases gk with
      | zero =>
        exfalso
        have hk := Hk.out
        have hk : k = 0 := by simpa using hk
        rcases hgo with h | h
        · have := Hf.out h
          omega
        · omega
      | succ g =>
        have hstep := toGo_step true g k first hgo
        have hmod : k % 16 < 16 := Nat.mod_lt _ (by decide)
        have kc := hex_piece (k % 16) hmod
        have kb1 : (0 : Int) ≤ (k : Int) % 16 := by omega
        have kb2 : (k : Int) % 16 ≤ (k : Int) % 16 + 1 := by omega
        have kb3 : (k : Int) % 16 + 1 ≤ 16 := by omega
        have kt1 : ((k : Int) % 16).toNat = k % 16 := by omega
        have kt2 : ((k : Int) % 16 + 1).toNat = k % 16 + 1 := by omega
        have ka := fun W => add_bs (chr (k % 16)) l (by omega) W
        have hdiv : k / 16 < 2 ^ g := by
          have hk := Hk.out
          rw [Nat.pow_succ] at hk
          omega
        have Hst := Lib.hid hstep
        have Hdv := Lib.hid hdiv
        have hkm : (k : Int) ≤ 1099511627776 := by
          have h1 := Hk.out
          have h2 : 2 ^ (g + 1) ≤ 2 ^ 40 := Nat.pow_le_pow_right (by decide) (by omega)
          have h3 : (2 : Nat) ^ 40 = 1099511627776 := by decide
          omega
        have hk0 : (0 : Int) ≤ (k : Int) := by omega
        clear hstep hdiv hmod
        cases first with
        | true =>
            clear hgo
            go_wp2_with fail
            go_roundg g
            case measure => omega
            case rel => exact ⟨k / 16, false, chr (k % 16) :: l, by go_num, rfl, rfl, Hdv.out, by rw [List.length_cons]; omega, (fun h => by cases h), by
                show _ = _
                rw [← hA.out, Hst.out, List.append_assoc]
                rfl, HB.out⟩
        | false =>
            have hk1 : 0 < k := by
              rcases hgo with h | h
              · cases h
              · exact h
            have hk2 : decide (0 < k) = true := decide_eq_true hk1
            clear hgo hk1
            go_wp2_with fail
            go_roundg g
            case measure => omega
            case rel => exact ⟨k / 16, false, chr (k % 16) :: l, by go_num, rfl, rfl, Hdv.out, by rw [List.length_cons]; omega, (fun h => by cases h), by
                show _ = _
                rw [← hA.out, Hst.out, List.append_assoc]
                rfl, HB.out⟩
    · have hff : first = false := by
        cases first with
        | true => exact absurd (.inl rfl) hgo
        | false => rfl
      have hk0 : k = 0 := by
        rcases Nat.eq_zero_or_pos k with h | h
        · exact h
        · exact absurd (.inr h) hgo
      subst hff
      subst hk0
      have hl2 : l = RES := by
        have h := hA.out
        rw [toGo_end] at h
        exact h
      have Hl2 := Lib.hid hl2
      have hfin := fun W => add_strs (a := ⟨#[48, 120]⟩) (b := bs l) (c := bs (48 :: 120 :: l)) (by rw [bs_size]; show 2 + l.length ≤ _; omega) (by rw [show (⟨#[48, 120]⟩ : ByteArray) = bs [48, 120] from rfl, bs_append]; rfl) W
      clear hgo hl2
      go_wp2_with fail
      go_ret
      rw [← Hl2.out]
      exact ⟨rfl, HB.out⟩
end Go.Proofs.YtoknkgeojhekoaaDoor
