/- The document's decimal text. -/
import Derived.Test.YtoldhhaplndkcaaDoorNumT
namespace Go.Proofs.YtoldhhaplndkcaaDoor
open Go.RowKit Go.Shelf Go.Sort
set_option linter.unusedVariables false
set_option linter.unusedSimpArgs false

theorem conv_int (c : Int) (b : UInt8) (h : c = (b.toNat : Int)) (W : World) : (convert 34 9 (.slice (some ⟨W.heap.size, 0, none⟩) 1 1)).run Tryd.prog (W.alloc (.cells #[.int .u8 c] 5)) = .ok (.string ⟨#[b]⟩) (W.alloc (.cells #[.int .u8 c] 5)) := by
  subst h
  refine run_convert_bytes_back (P := Tryd.prog) (W.alloc (.cells #[.int .u8 (b.toNat : Int)] 5)) 34 9 5 ⟨W.heap.size, 0, none⟩ 1 [b] Tryd.underlying34 Tryd.underlying5 Tryd.underlying9 ?_
  intro j hj
  have hj : j = 0 := by simpa using hj
  subst hj
  rw [add_plain, World.cell?_alloc_new]
  rfl
theorem dg_nat (d : Nat) (h : d < 10) : (48 : Int) + (d : Int) = ((chd d).toNat : Int) := by
  unfold chd
  rw [UInt8.toNat_ofNat_of_lt' (by show 48 + d < 256; omega)]
  omega
def more (g x : Nat) : List UInt8 := if x = 0 then [] else dcF g x
theorem more_step (g x : Nat) (h : 0 < x) : more (g + 1) x = more g (x / 10) ++ [chd (x % 10)] := by
  unfold more
  rw [if_neg (by omega)]
  conv => lhs; unfold dcF
  by_cases h10 : x < 10
  · rw [if_pos h10, Nat.div_eq_of_lt h10, if_pos rfl, Nat.mod_eq_of_lt h10]
    rfl
  · rw [if_neg h10, if_neg (by omega)]
theorem dcF_more (g n : Nat) : dcF (g + 1) n = more g (n / 10) ++ [chd (n % 10)] := by
  rcases Nat.eq_zero_or_pos n with rfl | h
  · unfold dcF more
    rfl
  · have := more_step g n h
    unfold more at this
    rw [if_neg (by omega)] at this
    exact this
set_option maxRecDepth 100000 in
theorem decimal_any (n : Nat) (w : World) (hn : n ≤ 4294967295) : Calls Tryd.prog 35 #[.int .i64 n] w fun e w' => e = .returned (.string (bs (dcl n))) ∧ Below w.heap.size w w' := by
  obtain ⟨RES, hRES⟩ : ∃ r, dcl n = r := ⟨_, rfl⟩
  rw [hRES]
  have h0 := dcF_more 19 n
  have h0 : RES = more 19 (n / 10) ++ [chd (n % 10)] := by rw [← hRES]; exact h0
  have H0 := Lib.hid h0
  have i0 : (0 : Int) ≤ (n : Int) := by omega
  have i1 : (n : Int) ≤ 4294967295 := by omega
  have kc := fun W => conv_int (48 + (n : Int) % 10) (chd (n % 10)) (by rw [← dg_nat (n % 10) (by omega)]; push_cast; rfl) W
  clear hRES h0
  go_enter Tryd.func35, Tryd.ntmps35
  go_wp2_with fail
  clear kc
  go_loopg [0, 3] 19 (fun g s0 s3 wr => ∃ (x : Nat) (l : List UInt8), s0 = .int .i64 x ∧ s3 = .string (bs l) ∧ x ≤ 4294967295 ∧ Aside (x < 10 ^ g) ∧ l.length + g ≤ 20 ∧ Aside (RES = more g x ++ l) ∧ Below w.heap.size w wr)
  case atStart => exact ⟨n / 10, [chd (n % 10)], by first | rfl | go_num | (congr 1), rfl, by omega, by
      show n / 10 < 10 ^ 19
      omega, by simp, H0.out, (Below.refl _ _).alloc (Nat.le_refl _) _⟩
  case round =>
    obtain ⟨x, l, rfl, rfl, hx, hxp, hl, hA, hB⟩ := hrel
    have HB := Lib.hid hB
    have HS := Lib.hid hB.size
    have x0 : (0 : Int) ≤ (x : Int) := by omega
    have x1 : (x : Int) ≤ 4294967295 := by omega
    clear hB
    by_cases h : 0 < x
    · cases gk with
      | zero =>
        exfalso
        have h1 := hxp.out
        have : x < 1 := h1
        omega
      | succ g =>
        have hst := more_step g x h
        have Hst := Lib.hid hst
        have Hdv : Hid (x / 10 < 10 ^ g) := Lib.hid (by
          have h1 := hxp.out
          rw [Nat.pow_succ] at h1
          omega)
        have kc := fun W => conv_int (48 + (x : Int) % 10) (chd (x % 10)) (by rw [← dg_nat (x % 10) (by omega)]; push_cast; rfl) W
        have ka : ∀ W, (Op.stringOp .add ⟨#[chd (x % 10)]⟩ (bs l)).run Tryd.prog W = .ok (.string (bs (chd (x % 10) :: l))) W := fun W => add_two [chd (x % 10)] l _ (by simp; omega) rfl W
        clear hst
        go_wp2_with fail
        go_roundg g
        case measure => omega
        case rel => exact ⟨x / 10, chd (x % 10) :: l, by go_num, rfl, by omega, Hdv.out, by rw [List.length_cons]; omega, by
            show RES = _
            rw [hA.out, Hst.out, List.append_assoc]
            rfl, HB.out.alloc HS.out _⟩
    · have hx0 : x = 0 := by omega
      subst hx0
      have hl2 : RES = l := by
        rw [hA.out]
        unfold more
        rw [if_pos rfl]
        rfl
      have Hl2 := Lib.hid hl2
      clear hl2 h
      go_wp2_with fail
      go_ret
      rw [Hl2.out]
      exact ⟨rfl, HB.out⟩
end Go.Proofs.YtoldhhaplndkcaaDoor
