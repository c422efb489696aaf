/- The document's: what an instruction uses, an operation's name, the plain lines. -/
import Derived.Test.YtckbcmoanadckaaDoorLine
import Derived.Test.YtckbcmoanadckaaDoorDec
namespace Go.Proofs.YtckbcmoanadckaaDoor
open Go.RowKit Go.Shelf
set_option linter.unusedVariables false
set_option linter.unusedSimpArgs false

def xB (c : Nat) : Bool := bits .and .u16 (c : Int) 8 != 0
def byxB (c : Nat) : Bool := (rjL.contains c || roL.contains c) && xB c
def noKL : List Nat := [128, 129, 132, 22, 7, 135]
def ukB (c : Nat) : Bool := !byxB c && !noKL.contains c
theorem byx_any (c : Nat) (w : World) : Calls Tryd.prog 33 #[.int .u16 c] w fun e w' => e = .returned (.bool (byxB c)) ∧ w = w' := by
  obtain ⟨x, hx⟩ : ∃ x, rjL.contains c = x := ⟨_, rfl⟩
  obtain ⟨y, hy⟩ : ∃ y, roL.contains c = y := ⟨_, rfl⟩
  obtain ⟨b, hb⟩ : ∃ b, bits .and .u16 (c : Int) 8 = b := ⟨_, rfl⟩
  have cj := fun w => rjump_any c w
  have co := fun w => rop_any c w
  unfold byxB xB
  rw [hx, hy, hb]
  simp only [hx] at cj
  simp only [hy] at co
  have CJ := Lib.hid cj
  have CO := Lib.hid co
  obtain ⟨z, hz⟩ : ∃ z, (b != 0) = z := ⟨_, rfl⟩
  rw [hz]
  clear cj co hx hy
  cases x with
  | true =>
    go_enter Tryd.func33, Tryd.ntmps33
    go_wp2_with fail
    refine (CJ.out _).mono ?_
    rintro e w2 ⟨rfl, rfl⟩
    go_wp2_with fail
    go_ret
    exact ⟨by simp [hz], rfl⟩
  | false =>
    cases y with
    | true =>
      go_enter Tryd.func33, Tryd.ntmps33
      go_wp2_with fail
      refine (CJ.out _).mono ?_
      rintro e w2 ⟨rfl, rfl⟩
      go_wp2_with fail
      refine (CO.out _).mono ?_
      rintro e w2 ⟨rfl, rfl⟩
      go_wp2_with fail
      go_ret
      exact ⟨by simp [hz], rfl⟩
    | false =>
      go_enter Tryd.func33, Tryd.ntmps33
      go_wp2_with fail
      refine (CJ.out _).mono ?_
      rintro e w2 ⟨rfl, rfl⟩
      go_wp2_with fail
      refine (CO.out _).mono ?_
      rintro e w2 ⟨rfl, rfl⟩
      go_wp2_with fail
      go_ret
      exact ⟨by simp, rfl⟩
theorem noKL_ways (c : Nat) : c = 128 ∨ c = 129 ∨ c = 132 ∨ c = 22 ∨ c = 7 ∨ c = 135 ∨ (noKL.contains c = false ∧ ((c : Int) == 128) = false ∧ ((c : Int) == 129) = false ∧ ((c : Int) == 132) = false ∧ ((c : Int) == 22) = false ∧ ((c : Int) == 7) = false ∧ ((c : Int) == 135) = false) := by
  by_cases h0 : c = 128; · exact .inl h0
  by_cases h1 : c = 129; · exact .inr (.inl h1)
  by_cases h2 : c = 132; · exact .inr (.inr (.inl h2))
  by_cases h3 : c = 22; · exact .inr (.inr (.inr (.inl h3)))
  by_cases h4 : c = 7; · exact .inr (.inr (.inr (.inr (.inl h4))))
  by_cases h5 : c = 135; · exact .inr (.inr (.inr (.inr (.inr (.inl h5)))))
  exact .inr (.inr (.inr (.inr (.inr (.inr ⟨by simp [noKL]; omega, eq_false h0, eq_false h1, eq_false h2, eq_false h3, eq_false h4, eq_false h5⟩)))))
theorem uses_any (c : Nat) (w : World) : Calls Tryd.prog 26 #[.int .u16 c] w fun e w' => (∃ z, e = .returned (.tuple #[.bool (knownB c && ukB c), .bool (knownB c && rjL.contains c), .bool z])) ∧ w = w' := by
  have hkn : ∀ w, Calls Tryd.prog 27 #[.int .u16 c] w fun e w' => e = .returned (.bool (knownB c)) ∧ w = w' := fun w => rknown_any c w
  have hbx : ∀ w, Calls Tryd.prog 33 #[.int .u16 c] w fun e w' => e = .returned (.bool (byxB c)) ∧ w = w' := fun w => byx_any c w
  have hjp : ∀ w, Calls Tryd.prog 29 #[.int .u16 c] w fun e w' => e = .returned (.bool (rjL.contains c)) ∧ w = w' := fun w => rjump_any c w
  have hld : ∀ w, Calls Tryd.prog 53 #[.int .u16 c] w fun e w' => e = .returned (.bool (rldL.contains c)) ∧ w = w' := fun w => rload_any c w
  obtain ⟨kb, hkb⟩ : ∃ x, knownB c = x := ⟨_, rfl⟩
  obtain ⟨bb, hbb⟩ : ∃ x, byxB c = x := ⟨_, rfl⟩
  obtain ⟨jb, hjb⟩ : ∃ x, rjL.contains c = x := ⟨_, rfl⟩
  obtain ⟨lb, hlb⟩ : ∃ x, rldL.contains c = x := ⟨_, rfl⟩
  obtain ⟨nb, hnb⟩ : ∃ x, noKL.contains c = x := ⟨_, rfl⟩
  unfold ukB
  rw [hkb, hbb, hjb, hnb]
  simp only [hkb] at hkn
  simp only [hbb] at hbx
  simp only [hjb] at hjp
  simp only [hlb] at hld
  have HKN := Lib.hid hkn
  have HBX := Lib.hid hbx
  have HJP := Lib.hid hjp
  have HLD := Lib.hid hld
  clear hkn hbx hjp hld hkb hbb hjb
  have HLB := Lib.hid hlb
  have HNB := Lib.hid hnb
  clear hlb hnb
  cases kb with
  | false =>
    go_enter Tryd.func26, Tryd.ntmps26
    go_wp2_with fail
    refine (HKN.out _).mono ?_
    rintro e w2 ⟨rfl, rfl⟩
    go_wp2_with fail
    go_ret3
    exact ⟨⟨_, rfl⟩, rfl⟩
  | true =>
    rcases noKL_ways c with rfl | rfl | rfl | rfl | rfl | rfl | ⟨hn, h0, h1, h2, h3, h4, h5⟩
    · have hlb : lb = false := by rw [← HLB.out]; decide
      have hnb : nb = true := by rw [← HNB.out]; decide
      subst hlb hnb
      go_enter Tryd.func26, Tryd.ntmps26
      go_wp2_with fail
      refine (HKN.out _).mono ?_
      rintro e w2 ⟨rfl, rfl⟩
      go_wp2_with fail
      refine (HBX.out _).mono ?_
      rintro e w2 ⟨rfl, rfl⟩
      go_wp2_with fail
      refine (HJP.out _).mono ?_
      rintro e w2 ⟨rfl, rfl⟩
      go_wp2_with fail
      refine (HLD.out _).mono ?_
      rintro e w2 ⟨rfl, rfl⟩
      go_wp2_with fail
      go_ret3
      exact ⟨⟨false, by simp⟩, rfl⟩
    · have hlb : lb = false := by rw [← HLB.out]; decide
      have hnb : nb = true := by rw [← HNB.out]; decide
      subst hlb hnb
      go_enter Tryd.func26, Tryd.ntmps26
      go_wp2_with fail
      refine (HKN.out _).mono ?_
      rintro e w2 ⟨rfl, rfl⟩
      go_wp2_with fail
      refine (HBX.out _).mono ?_
      rintro e w2 ⟨rfl, rfl⟩
      go_wp2_with fail
      refine (HJP.out _).mono ?_
      rintro e w2 ⟨rfl, rfl⟩
      go_wp2_with fail
      refine (HLD.out _).mono ?_
      rintro e w2 ⟨rfl, rfl⟩
      go_wp2_with fail
      go_ret3
      exact ⟨⟨false, by simp⟩, rfl⟩
    · have hlb : lb = false := by rw [← HLB.out]; decide
      have hnb : nb = true := by rw [← HNB.out]; decide
      subst hlb hnb
      go_enter Tryd.func26, Tryd.ntmps26
      go_wp2_with fail
      refine (HKN.out _).mono ?_
      rintro e w2 ⟨rfl, rfl⟩
      go_wp2_with fail
      refine (HBX.out _).mono ?_
      rintro e w2 ⟨rfl, rfl⟩
      go_wp2_with fail
      refine (HJP.out _).mono ?_
      rintro e w2 ⟨rfl, rfl⟩
      go_wp2_with fail
      refine (HLD.out _).mono ?_
      rintro e w2 ⟨rfl, rfl⟩
      go_wp2_with fail
      go_ret3
      exact ⟨⟨false, by simp⟩, rfl⟩
    · have hlb : lb = false := by rw [← HLB.out]; decide
      have hnb : nb = true := by rw [← HNB.out]; decide
      subst hlb hnb
      go_enter Tryd.func26, Tryd.ntmps26
      go_wp2_with fail
      refine (HKN.out _).mono ?_
      rintro e w2 ⟨rfl, rfl⟩
      go_wp2_with fail
      refine (HBX.out _).mono ?_
      rintro e w2 ⟨rfl, rfl⟩
      go_wp2_with fail
      refine (HJP.out _).mono ?_
      rintro e w2 ⟨rfl, rfl⟩
      go_wp2_with fail
      refine (HLD.out _).mono ?_
      rintro e w2 ⟨rfl, rfl⟩
      go_wp2_with fail
      go_ret3
      exact ⟨⟨false, by simp⟩, rfl⟩
    · have hlb : lb = false := by rw [← HLB.out]; decide
      have hnb : nb = true := by rw [← HNB.out]; decide
      subst hlb hnb
      go_enter Tryd.func26, Tryd.ntmps26
      go_wp2_with fail
      refine (HKN.out _).mono ?_
      rintro e w2 ⟨rfl, rfl⟩
      go_wp2_with fail
      refine (HBX.out _).mono ?_
      rintro e w2 ⟨rfl, rfl⟩
      go_wp2_with fail
      refine (HJP.out _).mono ?_
      rintro e w2 ⟨rfl, rfl⟩
      go_wp2_with fail
      refine (HLD.out _).mono ?_
      rintro e w2 ⟨rfl, rfl⟩
      go_wp2_with fail
      go_ret3
      exact ⟨⟨false, by simp⟩, rfl⟩
    · have hlb : lb = false := by rw [← HLB.out]; decide
      have hnb : nb = true := by rw [← HNB.out]; decide
      subst hlb hnb
      go_enter Tryd.func26, Tryd.ntmps26
      go_wp2_with fail
      refine (HKN.out _).mono ?_
      rintro e w2 ⟨rfl, rfl⟩
      go_wp2_with fail
      refine (HBX.out _).mono ?_
      rintro e w2 ⟨rfl, rfl⟩
      go_wp2_with fail
      refine (HJP.out _).mono ?_
      rintro e w2 ⟨rfl, rfl⟩
      go_wp2_with fail
      refine (HLD.out _).mono ?_
      rintro e w2 ⟨rfl, rfl⟩
      go_wp2_with fail
      go_ret3
      exact ⟨⟨false, by simp⟩, rfl⟩
    · have hnb : nb = false := by rw [← HNB.out]; exact hn
      subst hnb
      obtain ⟨q1, hq1⟩ : ∃ x, ((c : Int) == 60) = x := ⟨_, rfl⟩
      obtain ⟨q2, hq2⟩ : ∃ x, ((c : Int) == 156) = x := ⟨_, rfl⟩
      clear hn
      cases lb with
      | true =>
        go_enter Tryd.func26, Tryd.ntmps26
        go_wp2_with fail
        refine (HKN.out _).mono ?_
        rintro e w2 ⟨rfl, rfl⟩
        go_wp2_with fail
        refine (HBX.out _).mono ?_
        rintro e w2 ⟨rfl, rfl⟩
        go_wp2_with fail
        refine (HJP.out _).mono ?_
        rintro e w2 ⟨rfl, rfl⟩
        go_wp2_with fail
        refine (HLD.out _).mono ?_
        rintro e w2 ⟨rfl, rfl⟩
        go_wp2_with fail
        go_ret3
        exact ⟨⟨true, by simp⟩, rfl⟩
      | false =>
        cases q1 with
        | true =>
          go_enter Tryd.func26, Tryd.ntmps26
          go_wp2_with fail
          refine (HKN.out _).mono ?_
          rintro e w2 ⟨rfl, rfl⟩
          go_wp2_with fail
          refine (HBX.out _).mono ?_
          rintro e w2 ⟨rfl, rfl⟩
          go_wp2_with fail
          refine (HJP.out _).mono ?_
          rintro e w2 ⟨rfl, rfl⟩
          go_wp2_with fail
          refine (HLD.out _).mono ?_
          rintro e w2 ⟨rfl, rfl⟩
          go_wp2_with fail
          go_ret3
          exact ⟨⟨true, by simp⟩, rfl⟩
        | false =>
          go_enter Tryd.func26, Tryd.ntmps26
          go_wp2_with fail
          refine (HKN.out _).mono ?_
          rintro e w2 ⟨rfl, rfl⟩
          go_wp2_with fail
          refine (HBX.out _).mono ?_
          rintro e w2 ⟨rfl, rfl⟩
          go_wp2_with fail
          refine (HJP.out _).mono ?_
          rintro e w2 ⟨rfl, rfl⟩
          go_wp2_with fail
          refine (HLD.out _).mono ?_
          rintro e w2 ⟨rfl, rfl⟩
          go_wp2_with fail
          go_ret3
          exact ⟨⟨q2, by simp⟩, rfl⟩
/-- An operation's name. -/
def opN (c : Nat) : List UInt8 := (formL c).takeWhile (· != 32)
theorem oper_4 (w : World) : Calls Tryd.prog 32 #[.int .u16 4] w fun e w' => e = .returned (.string ⟨#[97, 100, 100]⟩) ∧ w = w' := by
  have hb : bits .andNot .u16 4 8 = 4 := by kernel_rfl
  go_enter Tryd.func32, Tryd.ntmps32
  go_wp2_with fail
  go_ret
  exact ⟨rfl, rfl⟩
theorem oper_12 (w : World) : Calls Tryd.prog 32 #[.int .u16 12] w fun e w' => e = .returned (.string ⟨#[97, 100, 100]⟩) ∧ w = w' := by
  have hb : bits .andNot .u16 12 8 = 4 := by kernel_rfl
  go_enter Tryd.func32, Tryd.ntmps32
  go_wp2_with fail
  go_ret
  exact ⟨rfl, rfl⟩
theorem oper_20 (w : World) : Calls Tryd.prog 32 #[.int .u16 20] w fun e w' => e = .returned (.string ⟨#[115, 117, 98]⟩) ∧ w = w' := by
  have hb : bits .andNot .u16 20 8 = 20 := by kernel_rfl
  go_enter Tryd.func32, Tryd.ntmps32
  go_wp2_with fail
  go_ret
  exact ⟨rfl, rfl⟩
theorem oper_21 (w : World) : Calls Tryd.prog 32 #[.int .u16 21] w fun e w' => e = .returned (.string ⟨#[106, 101, 113]⟩) ∧ w = w' := by
  have hb : bits .andNot .u16 21 8 = 21 := by kernel_rfl
  go_enter Tryd.func32, Tryd.ntmps32
  go_wp2_with fail
  go_ret
  exact ⟨rfl, rfl⟩
theorem oper_28 (w : World) : Calls Tryd.prog 32 #[.int .u16 28] w fun e w' => e = .returned (.string ⟨#[115, 117, 98]⟩) ∧ w = w' := by
  have hb : bits .andNot .u16 28 8 = 20 := by kernel_rfl
  go_enter Tryd.func32, Tryd.ntmps32
  go_wp2_with fail
  go_ret
  exact ⟨rfl, rfl⟩
theorem oper_29 (w : World) : Calls Tryd.prog 32 #[.int .u16 29] w fun e w' => e = .returned (.string ⟨#[106, 101, 113]⟩) ∧ w = w' := by
  have hb : bits .andNot .u16 29 8 = 21 := by kernel_rfl
  go_enter Tryd.func32, Tryd.ntmps32
  go_wp2_with fail
  go_ret
  exact ⟨rfl, rfl⟩
theorem oper_36 (w : World) : Calls Tryd.prog 32 #[.int .u16 36] w fun e w' => e = .returned (.string ⟨#[109, 117, 108]⟩) ∧ w = w' := by
  have hb : bits .andNot .u16 36 8 = 36 := by kernel_rfl
  go_enter Tryd.func32, Tryd.ntmps32
  go_wp2_with fail
  go_ret
  exact ⟨rfl, rfl⟩
theorem oper_37 (w : World) : Calls Tryd.prog 32 #[.int .u16 37] w fun e w' => e = .returned (.string ⟨#[106, 103, 116]⟩) ∧ w = w' := by
  have hb : bits .andNot .u16 37 8 = 37 := by kernel_rfl
  go_enter Tryd.func32, Tryd.ntmps32
  go_wp2_with fail
  go_ret
  exact ⟨rfl, rfl⟩
theorem oper_44 (w : World) : Calls Tryd.prog 32 #[.int .u16 44] w fun e w' => e = .returned (.string ⟨#[109, 117, 108]⟩) ∧ w = w' := by
  have hb : bits .andNot .u16 44 8 = 36 := by kernel_rfl
  go_enter Tryd.func32, Tryd.ntmps32
  go_wp2_with fail
  go_ret
  exact ⟨rfl, rfl⟩
theorem oper_45 (w : World) : Calls Tryd.prog 32 #[.int .u16 45] w fun e w' => e = .returned (.string ⟨#[106, 103, 116]⟩) ∧ w = w' := by
  have hb : bits .andNot .u16 45 8 = 37 := by kernel_rfl
  go_enter Tryd.func32, Tryd.ntmps32
  go_wp2_with fail
  go_ret
  exact ⟨rfl, rfl⟩
theorem oper_52 (w : World) : Calls Tryd.prog 32 #[.int .u16 52] w fun e w' => e = .returned (.string ⟨#[100, 105, 118]⟩) ∧ w = w' := by
  have hb : bits .andNot .u16 52 8 = 52 := by kernel_rfl
  go_enter Tryd.func32, Tryd.ntmps32
  go_wp2_with fail
  go_ret
  exact ⟨rfl, rfl⟩
theorem oper_53 (w : World) : Calls Tryd.prog 32 #[.int .u16 53] w fun e w' => e = .returned (.string ⟨#[106, 103, 101]⟩) ∧ w = w' := by
  have hb : bits .andNot .u16 53 8 = 53 := by kernel_rfl
  go_enter Tryd.func32, Tryd.ntmps32
  go_wp2_with fail
  go_ret
  exact ⟨rfl, rfl⟩
theorem oper_60 (w : World) : Calls Tryd.prog 32 #[.int .u16 60] w fun e w' => e = .returned (.string ⟨#[100, 105, 118]⟩) ∧ w = w' := by
  have hb : bits .andNot .u16 60 8 = 52 := by kernel_rfl
  go_enter Tryd.func32, Tryd.ntmps32
  go_wp2_with fail
  go_ret
  exact ⟨rfl, rfl⟩
theorem oper_61 (w : World) : Calls Tryd.prog 32 #[.int .u16 61] w fun e w' => e = .returned (.string ⟨#[106, 103, 101]⟩) ∧ w = w' := by
  have hb : bits .andNot .u16 61 8 = 53 := by kernel_rfl
  go_enter Tryd.func32, Tryd.ntmps32
  go_wp2_with fail
  go_ret
  exact ⟨rfl, rfl⟩
theorem oper_68 (w : World) : Calls Tryd.prog 32 #[.int .u16 68] w fun e w' => e = .returned (.string ⟨#[111, 114]⟩) ∧ w = w' := by
  have hb : bits .andNot .u16 68 8 = 68 := by kernel_rfl
  go_enter Tryd.func32, Tryd.ntmps32
  go_wp2_with fail
  go_ret
  exact ⟨rfl, rfl⟩
theorem oper_69 (w : World) : Calls Tryd.prog 32 #[.int .u16 69] w fun e w' => e = .returned (.string ⟨#[106, 115, 101, 116]⟩) ∧ w = w' := by
  have hb : bits .andNot .u16 69 8 = 69 := by kernel_rfl
  go_enter Tryd.func32, Tryd.ntmps32
  go_wp2_with fail
  go_ret
  exact ⟨rfl, rfl⟩
theorem oper_76 (w : World) : Calls Tryd.prog 32 #[.int .u16 76] w fun e w' => e = .returned (.string ⟨#[111, 114]⟩) ∧ w = w' := by
  have hb : bits .andNot .u16 76 8 = 68 := by kernel_rfl
  go_enter Tryd.func32, Tryd.ntmps32
  go_wp2_with fail
  go_ret
  exact ⟨rfl, rfl⟩
theorem oper_77 (w : World) : Calls Tryd.prog 32 #[.int .u16 77] w fun e w' => e = .returned (.string ⟨#[106, 115, 101, 116]⟩) ∧ w = w' := by
  have hb : bits .andNot .u16 77 8 = 69 := by kernel_rfl
  go_enter Tryd.func32, Tryd.ntmps32
  go_wp2_with fail
  go_ret
  exact ⟨rfl, rfl⟩
theorem oper_84 (w : World) : Calls Tryd.prog 32 #[.int .u16 84] w fun e w' => e = .returned (.string ⟨#[97, 110, 100]⟩) ∧ w = w' := by
  have hb : bits .andNot .u16 84 8 = 84 := by kernel_rfl
  go_enter Tryd.func32, Tryd.ntmps32
  go_wp2_with fail
  go_ret
  exact ⟨rfl, rfl⟩
theorem oper_92 (w : World) : Calls Tryd.prog 32 #[.int .u16 92] w fun e w' => e = .returned (.string ⟨#[97, 110, 100]⟩) ∧ w = w' := by
  have hb : bits .andNot .u16 92 8 = 84 := by kernel_rfl
  go_enter Tryd.func32, Tryd.ntmps32
  go_wp2_with fail
  go_ret
  exact ⟨rfl, rfl⟩
theorem oper_100 (w : World) : Calls Tryd.prog 32 #[.int .u16 100] w fun e w' => e = .returned (.string ⟨#[108, 115, 104]⟩) ∧ w = w' := by
  have hb : bits .andNot .u16 100 8 = 100 := by kernel_rfl
  go_enter Tryd.func32, Tryd.ntmps32
  go_wp2_with fail
  go_ret
  exact ⟨rfl, rfl⟩
theorem oper_108 (w : World) : Calls Tryd.prog 32 #[.int .u16 108] w fun e w' => e = .returned (.string ⟨#[108, 115, 104]⟩) ∧ w = w' := by
  have hb : bits .andNot .u16 108 8 = 100 := by kernel_rfl
  go_enter Tryd.func32, Tryd.ntmps32
  go_wp2_with fail
  go_ret
  exact ⟨rfl, rfl⟩
theorem oper_116 (w : World) : Calls Tryd.prog 32 #[.int .u16 116] w fun e w' => e = .returned (.string ⟨#[114, 115, 104]⟩) ∧ w = w' := by
  have hb : bits .andNot .u16 116 8 = 116 := by kernel_rfl
  go_enter Tryd.func32, Tryd.ntmps32
  go_wp2_with fail
  go_ret
  exact ⟨rfl, rfl⟩
theorem oper_124 (w : World) : Calls Tryd.prog 32 #[.int .u16 124] w fun e w' => e = .returned (.string ⟨#[114, 115, 104]⟩) ∧ w = w' := by
  have hb : bits .andNot .u16 124 8 = 116 := by kernel_rfl
  go_enter Tryd.func32, Tryd.ntmps32
  go_wp2_with fail
  go_ret
  exact ⟨rfl, rfl⟩
theorem oper_148 (w : World) : Calls Tryd.prog 32 #[.int .u16 148] w fun e w' => e = .returned (.string ⟨#[109, 111, 100]⟩) ∧ w = w' := by
  have hb : bits .andNot .u16 148 8 = 148 := by kernel_rfl
  go_enter Tryd.func32, Tryd.ntmps32
  go_wp2_with fail
  go_ret
  exact ⟨rfl, rfl⟩
theorem oper_156 (w : World) : Calls Tryd.prog 32 #[.int .u16 156] w fun e w' => e = .returned (.string ⟨#[109, 111, 100]⟩) ∧ w = w' := by
  have hb : bits .andNot .u16 156 8 = 148 := by kernel_rfl
  go_enter Tryd.func32, Tryd.ntmps32
  go_wp2_with fail
  go_ret
  exact ⟨rfl, rfl⟩
theorem oper_164 (w : World) : Calls Tryd.prog 32 #[.int .u16 164] w fun e w' => e = .returned (.string ⟨#[120, 111, 114]⟩) ∧ w = w' := by
  have hb : bits .andNot .u16 164 8 = 164 := by kernel_rfl
  go_enter Tryd.func32, Tryd.ntmps32
  go_wp2_with fail
  go_ret
  exact ⟨rfl, rfl⟩
theorem oper_172 (w : World) : Calls Tryd.prog 32 #[.int .u16 172] w fun e w' => e = .returned (.string ⟨#[120, 111, 114]⟩) ∧ w = w' := by
  have hb : bits .andNot .u16 172 8 = 164 := by kernel_rfl
  go_enter Tryd.func32, Tryd.ntmps32
  go_wp2_with fail
  go_ret
  exact ⟨rfl, rfl⟩
theorem oper_any (c : Nat) (w : World) (h : (rjL.contains c || roL.contains c) = true) : Calls Tryd.prog 32 #[.int .u16 c] w fun e w' => e = .returned (.string (bs (opN c))) ∧ w = w' := by
  have hm : c ∈ rjL ∨ c ∈ roL := by simpa using h
  clear h
  rcases hm with hm | hm
  · simp only [rjL, List.mem_cons, List.not_mem_nil, or_false] at hm
    rcases hm with rfl | rfl | rfl | rfl | rfl | rfl | rfl | rfl
    · exact oper_21 w
    · exact oper_29 w
    · exact oper_37 w
    · exact oper_45 w
    · exact oper_53 w
    · exact oper_61 w
    · exact oper_69 w
    · exact oper_77 w
  · simp only [roL, List.mem_cons, List.not_mem_nil, or_false] at hm
    rcases hm with rfl | rfl | rfl | rfl | rfl | rfl | rfl | rfl | rfl | rfl | rfl | rfl | rfl | rfl | rfl | rfl | rfl | rfl | rfl | rfl
    · exact oper_4 w
    · exact oper_12 w
    · exact oper_20 w
    · exact oper_28 w
    · exact oper_36 w
    · exact oper_44 w
    · exact oper_52 w
    · exact oper_60 w
    · exact oper_68 w
    · exact oper_76 w
    · exact oper_84 w
    · exact oper_92 w
    · exact oper_100 w
    · exact oper_108 w
    · exact oper_116 w
    · exact oper_124 w
    · exact oper_148 w
    · exact oper_156 w
    · exact oper_164 w
    · exact oper_172 w
theorem plain_0 (jt jf k : Nat) (w : World) (hk : k ≤ 4294967295) (D : List UInt8) (hD : dcl k = D) : Calls Tryd.prog 31 #[.agg #[.int .u16 0, .int .u8 jt, .int .u8 jf, .int .u32 k]] w fun e w' => e = .returned (.string (bs ([108, 100, 32, 35] ++ D))) ∧ Below w.heap.size w w' := by
  have hl := dcl_len k
  rw [hD] at hl
  obtain ⟨E1, hE1⟩ : ∃ E, [108, 100, 32, 35] ++ D = E := ⟨_, rfl⟩
  have a1 : ∀ W, (Op.stringOp .add ⟨#[108, 100, 32, 35]⟩ (bs D)).run Tryd.prog W = .ok (.string (bs E1)) W := fun W => add_two [108, 100, 32, 35] D _ (by simp only [List.length_cons, List.length_nil]; omega) hE1 W
  rw [hE1]
  clear hE1
  have cn := fun W => num_any k W hk
  rw [hD] at cn
  have Cn := Lib.hid cn
  clear cn hD hl hk
  go_enter Tryd.func31, Tryd.ntmps31
  go_wp2_with fail
  refine (Cn.out _).mono ?_
  rintro e w2 ⟨rfl, hB⟩
  have c0 : w2.cell? ⟨w.heap.size, 0, none⟩ = some (.int .u16 0) := (hB.cell (p := ⟨w.heap.size, 0, none⟩) (by simp)).trans (by simp [go_sem])
  have HB := Lib.hid (((Below.refl w.heap.size w).alloc (Nat.le_refl _) _).trans (hB.mono (by simp)))
  clear hB
  go_wp2_with fail
  go_ret
  exact ⟨rfl, HB.out⟩
theorem plain_1 (jt jf k : Nat) (w : World) (hk : k ≤ 4294967295) (D : List UInt8) (hD : dcl k = D) : Calls Tryd.prog 31 #[.agg #[.int .u16 1, .int .u8 jt, .int .u8 jf, .int .u32 k]] w fun e w' => e = .returned (.string (bs ([108, 100, 120, 32, 35] ++ D))) ∧ Below w.heap.size w w' := by
  have hl := dcl_len k
  rw [hD] at hl
  obtain ⟨E1, hE1⟩ : ∃ E, [108, 100, 120, 32, 35] ++ D = E := ⟨_, rfl⟩
  have a1 : ∀ W, (Op.stringOp .add ⟨#[108, 100, 120, 32, 35]⟩ (bs D)).run Tryd.prog W = .ok (.string (bs E1)) W := fun W => add_two [108, 100, 120, 32, 35] D _ (by simp only [List.length_cons, List.length_nil]; omega) hE1 W
  rw [hE1]
  clear hE1
  have cn := fun W => num_any k W hk
  rw [hD] at cn
  have Cn := Lib.hid cn
  clear cn hD hl hk
  go_enter Tryd.func31, Tryd.ntmps31
  go_wp2_with fail
  refine (Cn.out _).mono ?_
  rintro e w2 ⟨rfl, hB⟩
  have c0 : w2.cell? ⟨w.heap.size, 0, none⟩ = some (.int .u16 1) := (hB.cell (p := ⟨w.heap.size, 0, none⟩) (by simp)).trans (by simp [go_sem])
  have HB := Lib.hid (((Below.refl w.heap.size w).alloc (Nat.le_refl _) _).trans (hB.mono (by simp)))
  clear hB
  go_wp2_with fail
  go_ret
  exact ⟨rfl, HB.out⟩
theorem plain_2 (jt jf k : Nat) (w : World) (hk : k ≤ 4294967295) (D : List UInt8) (hD : dcl k = D) : Calls Tryd.prog 31 #[.agg #[.int .u16 2, .int .u8 jt, .int .u8 jf, .int .u32 k]] w fun e w' => e = .returned (.string (bs ([115, 116, 32, 77, 91] ++ D ++ [93]))) ∧ Below w.heap.size w w' := by
  have hl := dcl_len k
  rw [hD] at hl
  obtain ⟨E1, hE1⟩ : ∃ E, [115, 116, 32, 77, 91] ++ D = E := ⟨_, rfl⟩
  have a1 : ∀ W, (Op.stringOp .add ⟨#[115, 116, 32, 77, 91]⟩ (bs D)).run Tryd.prog W = .ok (.string (bs E1)) W := fun W => add_two [115, 116, 32, 77, 91] D _ (by simp only [List.length_cons, List.length_nil]; omega) hE1 W
  obtain ⟨E2, hE2⟩ : ∃ E, E1 ++ [93] = E := ⟨_, rfl⟩
  have a2 : ∀ W, (Op.stringOp .add (bs E1) ⟨#[93]⟩).run Tryd.prog W = .ok (.string (bs E2)) W := fun W => add_two E1 [93] _ (by rw [← hE1]; simp only [List.length_append, List.length_cons, List.length_nil]; omega) hE2 W
  rw [hE1, hE2]
  clear hE1 hE2
  have cn := fun W => num_any k W hk
  rw [hD] at cn
  have Cn := Lib.hid cn
  clear cn hD hl hk
  go_enter Tryd.func31, Tryd.ntmps31
  go_wp2_with fail
  refine (Cn.out _).mono ?_
  rintro e w2 ⟨rfl, hB⟩
  have c0 : w2.cell? ⟨w.heap.size, 0, none⟩ = some (.int .u16 2) := (hB.cell (p := ⟨w.heap.size, 0, none⟩) (by simp)).trans (by simp [go_sem])
  have HB := Lib.hid (((Below.refl w.heap.size w).alloc (Nat.le_refl _) _).trans (hB.mono (by simp)))
  clear hB
  go_wp2_with fail
  go_ret
  exact ⟨rfl, HB.out⟩
theorem plain_3 (jt jf k : Nat) (w : World) (hk : k ≤ 4294967295) (D : List UInt8) (hD : dcl k = D) : Calls Tryd.prog 31 #[.agg #[.int .u16 3, .int .u8 jt, .int .u8 jf, .int .u32 k]] w fun e w' => e = .returned (.string (bs ([115, 116, 120, 32, 77, 91] ++ D ++ [93]))) ∧ Below w.heap.size w w' := by
  have hl := dcl_len k
  rw [hD] at hl
  obtain ⟨E1, hE1⟩ : ∃ E, [115, 116, 120, 32, 77, 91] ++ D = E := ⟨_, rfl⟩
  have a1 : ∀ W, (Op.stringOp .add ⟨#[115, 116, 120, 32, 77, 91]⟩ (bs D)).run Tryd.prog W = .ok (.string (bs E1)) W := fun W => add_two [115, 116, 120, 32, 77, 91] D _ (by simp only [List.length_cons, List.length_nil]; omega) hE1 W
  obtain ⟨E2, hE2⟩ : ∃ E, E1 ++ [93] = E := ⟨_, rfl⟩
  have a2 : ∀ W, (Op.stringOp .add (bs E1) ⟨#[93]⟩).run Tryd.prog W = .ok (.string (bs E2)) W := fun W => add_two E1 [93] _ (by rw [← hE1]; simp only [List.length_append, List.length_cons, List.length_nil]; omega) hE2 W
  rw [hE1, hE2]
  clear hE1 hE2
  have cn := fun W => num_any k W hk
  rw [hD] at cn
  have Cn := Lib.hid cn
  clear cn hD hl hk
  go_enter Tryd.func31, Tryd.ntmps31
  go_wp2_with fail
  refine (Cn.out _).mono ?_
  rintro e w2 ⟨rfl, hB⟩
  have c0 : w2.cell? ⟨w.heap.size, 0, none⟩ = some (.int .u16 3) := (hB.cell (p := ⟨w.heap.size, 0, none⟩) (by simp)).trans (by simp [go_sem])
  have HB := Lib.hid (((Below.refl w.heap.size w).alloc (Nat.le_refl _) _).trans (hB.mono (by simp)))
  clear hB
  go_wp2_with fail
  go_ret
  exact ⟨rfl, HB.out⟩
theorem plain_5 (jt jf k : Nat) (w : World) (hk : k ≤ 4294967295) (D : List UInt8) (hD : dcl k = D) : Calls Tryd.prog 31 #[.agg #[.int .u16 5, .int .u8 jt, .int .u8 jf, .int .u32 k]] w fun e w' => e = .returned (.string (bs ([106, 97, 32] ++ D))) ∧ Below w.heap.size w w' := by
  have hl := dcl_len k
  rw [hD] at hl
  obtain ⟨E1, hE1⟩ : ∃ E, [106, 97, 32] ++ D = E := ⟨_, rfl⟩
  have a1 : ∀ W, (Op.stringOp .add ⟨#[106, 97, 32]⟩ (bs D)).run Tryd.prog W = .ok (.string (bs E1)) W := fun W => add_two [106, 97, 32] D _ (by simp only [List.length_cons, List.length_nil]; omega) hE1 W
  rw [hE1]
  clear hE1
  have cn := fun W => num_any k W hk
  rw [hD] at cn
  have Cn := Lib.hid cn
  clear cn hD hl hk
  go_enter Tryd.func31, Tryd.ntmps31
  go_wp2_with fail
  refine (Cn.out _).mono ?_
  rintro e w2 ⟨rfl, hB⟩
  have c0 : w2.cell? ⟨w.heap.size, 0, none⟩ = some (.int .u16 5) := (hB.cell (p := ⟨w.heap.size, 0, none⟩) (by simp)).trans (by simp [go_sem])
  have HB := Lib.hid (((Below.refl w.heap.size w).alloc (Nat.le_refl _) _).trans (hB.mono (by simp)))
  clear hB
  go_wp2_with fail
  go_ret
  exact ⟨rfl, HB.out⟩
theorem plain_6 (jt jf k : Nat) (w : World) (hk : k ≤ 4294967295) (D : List UInt8) (hD : dcl k = D) : Calls Tryd.prog 31 #[.agg #[.int .u16 6, .int .u8 jt, .int .u8 jf, .int .u32 k]] w fun e w' => e = .returned (.string (bs ([114, 101, 116, 32, 35] ++ D))) ∧ Below w.heap.size w w' := by
  have hl := dcl_len k
  rw [hD] at hl
  obtain ⟨E1, hE1⟩ : ∃ E, [114, 101, 116, 32, 35] ++ D = E := ⟨_, rfl⟩
  have a1 : ∀ W, (Op.stringOp .add ⟨#[114, 101, 116, 32, 35]⟩ (bs D)).run Tryd.prog W = .ok (.string (bs E1)) W := fun W => add_two [114, 101, 116, 32, 35] D _ (by simp only [List.length_cons, List.length_nil]; omega) hE1 W
  rw [hE1]
  clear hE1
  have cn := fun W => num_any k W hk
  rw [hD] at cn
  have Cn := Lib.hid cn
  clear cn hD hl hk
  go_enter Tryd.func31, Tryd.ntmps31
  go_wp2_with fail
  refine (Cn.out _).mono ?_
  rintro e w2 ⟨rfl, hB⟩
  have c0 : w2.cell? ⟨w.heap.size, 0, none⟩ = some (.int .u16 6) := (hB.cell (p := ⟨w.heap.size, 0, none⟩) (by simp)).trans (by simp [go_sem])
  have HB := Lib.hid (((Below.refl w.heap.size w).alloc (Nat.le_refl _) _).trans (hB.mono (by simp)))
  clear hB
  go_wp2_with fail
  go_ret
  exact ⟨rfl, HB.out⟩
theorem plain_7 (jt jf k : Nat) (w : World) (hk : k ≤ 4294967295) (D : List UInt8) (hD : dcl k = D) : Calls Tryd.prog 31 #[.agg #[.int .u16 7, .int .u8 jt, .int .u8 jf, .int .u32 k]] w fun e w' => e = .returned (.string (bs [116, 97, 120])) ∧ Below w.heap.size w w' := by
  have hl := dcl_len k
  rw [hD] at hl
  have cn := fun W => num_any k W hk
  rw [hD] at cn
  have Cn := Lib.hid cn
  clear cn hD hl hk
  go_enter Tryd.func31, Tryd.ntmps31
  go_wp2_with fail
  refine (Cn.out _).mono ?_
  rintro e w2 ⟨rfl, hB⟩
  have c0 : w2.cell? ⟨w.heap.size, 0, none⟩ = some (.int .u16 7) := (hB.cell (p := ⟨w.heap.size, 0, none⟩) (by simp)).trans (by simp [go_sem])
  have HB := Lib.hid (((Below.refl w.heap.size w).alloc (Nat.le_refl _) _).trans (hB.mono (by simp)))
  clear hB
  go_wp2_with fail
  go_ret
  exact ⟨rfl, HB.out⟩
theorem plain_22 (jt jf k : Nat) (w : World) (hk : k ≤ 4294967295) (D : List UInt8) (hD : dcl k = D) : Calls Tryd.prog 31 #[.agg #[.int .u16 22, .int .u8 jt, .int .u8 jf, .int .u32 k]] w fun e w' => e = .returned (.string (bs [114, 101, 116, 32, 97])) ∧ Below w.heap.size w w' := by
  have hl := dcl_len k
  rw [hD] at hl
  have cn := fun W => num_any k W hk
  rw [hD] at cn
  have Cn := Lib.hid cn
  clear cn hD hl hk
  go_enter Tryd.func31, Tryd.ntmps31
  go_wp2_with fail
  refine (Cn.out _).mono ?_
  rintro e w2 ⟨rfl, hB⟩
  have c0 : w2.cell? ⟨w.heap.size, 0, none⟩ = some (.int .u16 22) := (hB.cell (p := ⟨w.heap.size, 0, none⟩) (by simp)).trans (by simp [go_sem])
  have HB := Lib.hid (((Below.refl w.heap.size w).alloc (Nat.le_refl _) _).trans (hB.mono (by simp)))
  clear hB
  go_wp2_with fail
  go_ret
  exact ⟨rfl, HB.out⟩
theorem plain_32 (jt jf k : Nat) (w : World) (hk : k ≤ 4294967295) (D : List UInt8) (hD : dcl k = D) : Calls Tryd.prog 31 #[.agg #[.int .u16 32, .int .u8 jt, .int .u8 jf, .int .u32 k]] w fun e w' => e = .returned (.string (bs ([108, 100, 32, 91] ++ D ++ [93]))) ∧ Below w.heap.size w w' := by
  have hl := dcl_len k
  rw [hD] at hl
  obtain ⟨E1, hE1⟩ : ∃ E, [108, 100, 32, 91] ++ D = E := ⟨_, rfl⟩
  have a1 : ∀ W, (Op.stringOp .add ⟨#[108, 100, 32, 91]⟩ (bs D)).run Tryd.prog W = .ok (.string (bs E1)) W := fun W => add_two [108, 100, 32, 91] D _ (by simp only [List.length_cons, List.length_nil]; omega) hE1 W
  obtain ⟨E2, hE2⟩ : ∃ E, E1 ++ [93] = E := ⟨_, rfl⟩
  have a2 : ∀ W, (Op.stringOp .add (bs E1) ⟨#[93]⟩).run Tryd.prog W = .ok (.string (bs E2)) W := fun W => add_two E1 [93] _ (by rw [← hE1]; simp only [List.length_append, List.length_cons, List.length_nil]; omega) hE2 W
  rw [hE1, hE2]
  clear hE1 hE2
  have cn := fun W => num_any k W hk
  rw [hD] at cn
  have Cn := Lib.hid cn
  clear cn hD hl hk
  go_enter Tryd.func31, Tryd.ntmps31
  go_wp2_with fail
  refine (Cn.out _).mono ?_
  rintro e w2 ⟨rfl, hB⟩
  have c0 : w2.cell? ⟨w.heap.size, 0, none⟩ = some (.int .u16 32) := (hB.cell (p := ⟨w.heap.size, 0, none⟩) (by simp)).trans (by simp [go_sem])
  have HB := Lib.hid (((Below.refl w.heap.size w).alloc (Nat.le_refl _) _).trans (hB.mono (by simp)))
  clear hB
  go_wp2_with fail
  go_ret
  exact ⟨rfl, HB.out⟩
theorem plain_40 (jt jf k : Nat) (w : World) (hk : k ≤ 4294967295) (D : List UInt8) (hD : dcl k = D) : Calls Tryd.prog 31 #[.agg #[.int .u16 40, .int .u8 jt, .int .u8 jf, .int .u32 k]] w fun e w' => e = .returned (.string (bs ([108, 100, 104, 32, 91] ++ D ++ [93]))) ∧ Below w.heap.size w w' := by
  have hl := dcl_len k
  rw [hD] at hl
  obtain ⟨E1, hE1⟩ : ∃ E, [108, 100, 104, 32, 91] ++ D = E := ⟨_, rfl⟩
  have a1 : ∀ W, (Op.stringOp .add ⟨#[108, 100, 104, 32, 91]⟩ (bs D)).run Tryd.prog W = .ok (.string (bs E1)) W := fun W => add_two [108, 100, 104, 32, 91] D _ (by simp only [List.length_cons, List.length_nil]; omega) hE1 W
  obtain ⟨E2, hE2⟩ : ∃ E, E1 ++ [93] = E := ⟨_, rfl⟩
  have a2 : ∀ W, (Op.stringOp .add (bs E1) ⟨#[93]⟩).run Tryd.prog W = .ok (.string (bs E2)) W := fun W => add_two E1 [93] _ (by rw [← hE1]; simp only [List.length_append, List.length_cons, List.length_nil]; omega) hE2 W
  rw [hE1, hE2]
  clear hE1 hE2
  have cn := fun W => num_any k W hk
  rw [hD] at cn
  have Cn := Lib.hid cn
  clear cn hD hl hk
  go_enter Tryd.func31, Tryd.ntmps31
  go_wp2_with fail
  refine (Cn.out _).mono ?_
  rintro e w2 ⟨rfl, hB⟩
  have c0 : w2.cell? ⟨w.heap.size, 0, none⟩ = some (.int .u16 40) := (hB.cell (p := ⟨w.heap.size, 0, none⟩) (by simp)).trans (by simp [go_sem])
  have HB := Lib.hid (((Below.refl w.heap.size w).alloc (Nat.le_refl _) _).trans (hB.mono (by simp)))
  clear hB
  go_wp2_with fail
  go_ret
  exact ⟨rfl, HB.out⟩
theorem plain_48 (jt jf k : Nat) (w : World) (hk : k ≤ 4294967295) (D : List UInt8) (hD : dcl k = D) : Calls Tryd.prog 31 #[.agg #[.int .u16 48, .int .u8 jt, .int .u8 jf, .int .u32 k]] w fun e w' => e = .returned (.string (bs ([108, 100, 98, 32, 91] ++ D ++ [93]))) ∧ Below w.heap.size w w' := by
  have hl := dcl_len k
  rw [hD] at hl
  obtain ⟨E1, hE1⟩ : ∃ E, [108, 100, 98, 32, 91] ++ D = E := ⟨_, rfl⟩
  have a1 : ∀ W, (Op.stringOp .add ⟨#[108, 100, 98, 32, 91]⟩ (bs D)).run Tryd.prog W = .ok (.string (bs E1)) W := fun W => add_two [108, 100, 98, 32, 91] D _ (by simp only [List.length_cons, List.length_nil]; omega) hE1 W
  obtain ⟨E2, hE2⟩ : ∃ E, E1 ++ [93] = E := ⟨_, rfl⟩
  have a2 : ∀ W, (Op.stringOp .add (bs E1) ⟨#[93]⟩).run Tryd.prog W = .ok (.string (bs E2)) W := fun W => add_two E1 [93] _ (by rw [← hE1]; simp only [List.length_append, List.length_cons, List.length_nil]; omega) hE2 W
  rw [hE1, hE2]
  clear hE1 hE2
  have cn := fun W => num_any k W hk
  rw [hD] at cn
  have Cn := Lib.hid cn
  clear cn hD hl hk
  go_enter Tryd.func31, Tryd.ntmps31
  go_wp2_with fail
  refine (Cn.out _).mono ?_
  rintro e w2 ⟨rfl, hB⟩
  have c0 : w2.cell? ⟨w.heap.size, 0, none⟩ = some (.int .u16 48) := (hB.cell (p := ⟨w.heap.size, 0, none⟩) (by simp)).trans (by simp [go_sem])
  have HB := Lib.hid (((Below.refl w.heap.size w).alloc (Nat.le_refl _) _).trans (hB.mono (by simp)))
  clear hB
  go_wp2_with fail
  go_ret
  exact ⟨rfl, HB.out⟩
theorem plain_64 (jt jf k : Nat) (w : World) (hk : k ≤ 4294967295) (D : List UInt8) (hD : dcl k = D) : Calls Tryd.prog 31 #[.agg #[.int .u16 64, .int .u8 jt, .int .u8 jf, .int .u32 k]] w fun e w' => e = .returned (.string (bs ([108, 100, 32, 91, 120, 43] ++ D ++ [93]))) ∧ Below w.heap.size w w' := by
  have hl := dcl_len k
  rw [hD] at hl
  obtain ⟨E1, hE1⟩ : ∃ E, [108, 100, 32, 91, 120, 43] ++ D = E := ⟨_, rfl⟩
  have a1 : ∀ W, (Op.stringOp .add ⟨#[108, 100, 32, 91, 120, 43]⟩ (bs D)).run Tryd.prog W = .ok (.string (bs E1)) W := fun W => add_two [108, 100, 32, 91, 120, 43] D _ (by simp only [List.length_cons, List.length_nil]; omega) hE1 W
  obtain ⟨E2, hE2⟩ : ∃ E, E1 ++ [93] = E := ⟨_, rfl⟩
  have a2 : ∀ W, (Op.stringOp .add (bs E1) ⟨#[93]⟩).run Tryd.prog W = .ok (.string (bs E2)) W := fun W => add_two E1 [93] _ (by rw [← hE1]; simp only [List.length_append, List.length_cons, List.length_nil]; omega) hE2 W
  rw [hE1, hE2]
  clear hE1 hE2
  have cn := fun W => num_any k W hk
  rw [hD] at cn
  have Cn := Lib.hid cn
  clear cn hD hl hk
  go_enter Tryd.func31, Tryd.ntmps31
  go_wp2_with fail
  refine (Cn.out _).mono ?_
  rintro e w2 ⟨rfl, hB⟩
  have c0 : w2.cell? ⟨w.heap.size, 0, none⟩ = some (.int .u16 64) := (hB.cell (p := ⟨w.heap.size, 0, none⟩) (by simp)).trans (by simp [go_sem])
  have HB := Lib.hid (((Below.refl w.heap.size w).alloc (Nat.le_refl _) _).trans (hB.mono (by simp)))
  clear hB
  go_wp2_with fail
  go_ret
  exact ⟨rfl, HB.out⟩
theorem plain_72 (jt jf k : Nat) (w : World) (hk : k ≤ 4294967295) (D : List UInt8) (hD : dcl k = D) : Calls Tryd.prog 31 #[.agg #[.int .u16 72, .int .u8 jt, .int .u8 jf, .int .u32 k]] w fun e w' => e = .returned (.string (bs ([108, 100, 104, 32, 91, 120, 43] ++ D ++ [93]))) ∧ Below w.heap.size w w' := by
  have hl := dcl_len k
  rw [hD] at hl
  obtain ⟨E1, hE1⟩ : ∃ E, [108, 100, 104, 32, 91, 120, 43] ++ D = E := ⟨_, rfl⟩
  have a1 : ∀ W, (Op.stringOp .add ⟨#[108, 100, 104, 32, 91, 120, 43]⟩ (bs D)).run Tryd.prog W = .ok (.string (bs E1)) W := fun W => add_two [108, 100, 104, 32, 91, 120, 43] D _ (by simp only [List.length_cons, List.length_nil]; omega) hE1 W
  obtain ⟨E2, hE2⟩ : ∃ E, E1 ++ [93] = E := ⟨_, rfl⟩
  have a2 : ∀ W, (Op.stringOp .add (bs E1) ⟨#[93]⟩).run Tryd.prog W = .ok (.string (bs E2)) W := fun W => add_two E1 [93] _ (by rw [← hE1]; simp only [List.length_append, List.length_cons, List.length_nil]; omega) hE2 W
  rw [hE1, hE2]
  clear hE1 hE2
  have cn := fun W => num_any k W hk
  rw [hD] at cn
  have Cn := Lib.hid cn
  clear cn hD hl hk
  go_enter Tryd.func31, Tryd.ntmps31
  go_wp2_with fail
  refine (Cn.out _).mono ?_
  rintro e w2 ⟨rfl, hB⟩
  have c0 : w2.cell? ⟨w.heap.size, 0, none⟩ = some (.int .u16 72) := (hB.cell (p := ⟨w.heap.size, 0, none⟩) (by simp)).trans (by simp [go_sem])
  have HB := Lib.hid (((Below.refl w.heap.size w).alloc (Nat.le_refl _) _).trans (hB.mono (by simp)))
  clear hB
  go_wp2_with fail
  go_ret
  exact ⟨rfl, HB.out⟩
theorem plain_80 (jt jf k : Nat) (w : World) (hk : k ≤ 4294967295) (D : List UInt8) (hD : dcl k = D) : Calls Tryd.prog 31 #[.agg #[.int .u16 80, .int .u8 jt, .int .u8 jf, .int .u32 k]] w fun e w' => e = .returned (.string (bs ([108, 100, 98, 32, 91, 120, 43] ++ D ++ [93]))) ∧ Below w.heap.size w w' := by
  have hl := dcl_len k
  rw [hD] at hl
  obtain ⟨E1, hE1⟩ : ∃ E, [108, 100, 98, 32, 91, 120, 43] ++ D = E := ⟨_, rfl⟩
  have a1 : ∀ W, (Op.stringOp .add ⟨#[108, 100, 98, 32, 91, 120, 43]⟩ (bs D)).run Tryd.prog W = .ok (.string (bs E1)) W := fun W => add_two [108, 100, 98, 32, 91, 120, 43] D _ (by simp only [List.length_cons, List.length_nil]; omega) hE1 W
  obtain ⟨E2, hE2⟩ : ∃ E, E1 ++ [93] = E := ⟨_, rfl⟩
  have a2 : ∀ W, (Op.stringOp .add (bs E1) ⟨#[93]⟩).run Tryd.prog W = .ok (.string (bs E2)) W := fun W => add_two E1 [93] _ (by rw [← hE1]; simp only [List.length_append, List.length_cons, List.length_nil]; omega) hE2 W
  rw [hE1, hE2]
  clear hE1 hE2
  have cn := fun W => num_any k W hk
  rw [hD] at cn
  have Cn := Lib.hid cn
  clear cn hD hl hk
  go_enter Tryd.func31, Tryd.ntmps31
  go_wp2_with fail
  refine (Cn.out _).mono ?_
  rintro e w2 ⟨rfl, hB⟩
  have c0 : w2.cell? ⟨w.heap.size, 0, none⟩ = some (.int .u16 80) := (hB.cell (p := ⟨w.heap.size, 0, none⟩) (by simp)).trans (by simp [go_sem])
  have HB := Lib.hid (((Below.refl w.heap.size w).alloc (Nat.le_refl _) _).trans (hB.mono (by simp)))
  clear hB
  go_wp2_with fail
  go_ret
  exact ⟨rfl, HB.out⟩
theorem plain_96 (jt jf k : Nat) (w : World) (hk : k ≤ 4294967295) (D : List UInt8) (hD : dcl k = D) : Calls Tryd.prog 31 #[.agg #[.int .u16 96, .int .u8 jt, .int .u8 jf, .int .u32 k]] w fun e w' => e = .returned (.string (bs ([108, 100, 32, 77, 91] ++ D ++ [93]))) ∧ Below w.heap.size w w' := by
  have hl := dcl_len k
  rw [hD] at hl
  obtain ⟨E1, hE1⟩ : ∃ E, [108, 100, 32, 77, 91] ++ D = E := ⟨_, rfl⟩
  have a1 : ∀ W, (Op.stringOp .add ⟨#[108, 100, 32, 77, 91]⟩ (bs D)).run Tryd.prog W = .ok (.string (bs E1)) W := fun W => add_two [108, 100, 32, 77, 91] D _ (by simp only [List.length_cons, List.length_nil]; omega) hE1 W
  obtain ⟨E2, hE2⟩ : ∃ E, E1 ++ [93] = E := ⟨_, rfl⟩
  have a2 : ∀ W, (Op.stringOp .add (bs E1) ⟨#[93]⟩).run Tryd.prog W = .ok (.string (bs E2)) W := fun W => add_two E1 [93] _ (by rw [← hE1]; simp only [List.length_append, List.length_cons, List.length_nil]; omega) hE2 W
  rw [hE1, hE2]
  clear hE1 hE2
  have cn := fun W => num_any k W hk
  rw [hD] at cn
  have Cn := Lib.hid cn
  clear cn hD hl hk
  go_enter Tryd.func31, Tryd.ntmps31
  go_wp2_with fail
  refine (Cn.out _).mono ?_
  rintro e w2 ⟨rfl, hB⟩
  have c0 : w2.cell? ⟨w.heap.size, 0, none⟩ = some (.int .u16 96) := (hB.cell (p := ⟨w.heap.size, 0, none⟩) (by simp)).trans (by simp [go_sem])
  have HB := Lib.hid (((Below.refl w.heap.size w).alloc (Nat.le_refl _) _).trans (hB.mono (by simp)))
  clear hB
  go_wp2_with fail
  go_ret
  exact ⟨rfl, HB.out⟩
theorem plain_97 (jt jf k : Nat) (w : World) (hk : k ≤ 4294967295) (D : List UInt8) (hD : dcl k = D) : Calls Tryd.prog 31 #[.agg #[.int .u16 97, .int .u8 jt, .int .u8 jf, .int .u32 k]] w fun e w' => e = .returned (.string (bs ([108, 100, 120, 32, 77, 91] ++ D ++ [93]))) ∧ Below w.heap.size w w' := by
  have hl := dcl_len k
  rw [hD] at hl
  obtain ⟨E1, hE1⟩ : ∃ E, [108, 100, 120, 32, 77, 91] ++ D = E := ⟨_, rfl⟩
  have a1 : ∀ W, (Op.stringOp .add ⟨#[108, 100, 120, 32, 77, 91]⟩ (bs D)).run Tryd.prog W = .ok (.string (bs E1)) W := fun W => add_two [108, 100, 120, 32, 77, 91] D _ (by simp only [List.length_cons, List.length_nil]; omega) hE1 W
  obtain ⟨E2, hE2⟩ : ∃ E, E1 ++ [93] = E := ⟨_, rfl⟩
  have a2 : ∀ W, (Op.stringOp .add (bs E1) ⟨#[93]⟩).run Tryd.prog W = .ok (.string (bs E2)) W := fun W => add_two E1 [93] _ (by rw [← hE1]; simp only [List.length_append, List.length_cons, List.length_nil]; omega) hE2 W
  rw [hE1, hE2]
  clear hE1 hE2
  have cn := fun W => num_any k W hk
  rw [hD] at cn
  have Cn := Lib.hid cn
  clear cn hD hl hk
  go_enter Tryd.func31, Tryd.ntmps31
  go_wp2_with fail
  refine (Cn.out _).mono ?_
  rintro e w2 ⟨rfl, hB⟩
  have c0 : w2.cell? ⟨w.heap.size, 0, none⟩ = some (.int .u16 97) := (hB.cell (p := ⟨w.heap.size, 0, none⟩) (by simp)).trans (by simp [go_sem])
  have HB := Lib.hid (((Below.refl w.heap.size w).alloc (Nat.le_refl _) _).trans (hB.mono (by simp)))
  clear hB
  go_wp2_with fail
  go_ret
  exact ⟨rfl, HB.out⟩
theorem plain_128 (jt jf k : Nat) (w : World) (hk : k ≤ 4294967295) (D : List UInt8) (hD : dcl k = D) : Calls Tryd.prog 31 #[.agg #[.int .u16 128, .int .u8 jt, .int .u8 jf, .int .u32 k]] w fun e w' => e = .returned (.string (bs [108, 100, 32, 108, 101, 110])) ∧ Below w.heap.size w w' := by
  have hl := dcl_len k
  rw [hD] at hl
  have cn := fun W => num_any k W hk
  rw [hD] at cn
  have Cn := Lib.hid cn
  clear cn hD hl hk
  go_enter Tryd.func31, Tryd.ntmps31
  go_wp2_with fail
  refine (Cn.out _).mono ?_
  rintro e w2 ⟨rfl, hB⟩
  have c0 : w2.cell? ⟨w.heap.size, 0, none⟩ = some (.int .u16 128) := (hB.cell (p := ⟨w.heap.size, 0, none⟩) (by simp)).trans (by simp [go_sem])
  have HB := Lib.hid (((Below.refl w.heap.size w).alloc (Nat.le_refl _) _).trans (hB.mono (by simp)))
  clear hB
  go_wp2_with fail
  go_ret
  exact ⟨rfl, HB.out⟩
theorem plain_129 (jt jf k : Nat) (w : World) (hk : k ≤ 4294967295) (D : List UInt8) (hD : dcl k = D) : Calls Tryd.prog 31 #[.agg #[.int .u16 129, .int .u8 jt, .int .u8 jf, .int .u32 k]] w fun e w' => e = .returned (.string (bs [108, 100, 120, 32, 108, 101, 110])) ∧ Below w.heap.size w w' := by
  have hl := dcl_len k
  rw [hD] at hl
  have cn := fun W => num_any k W hk
  rw [hD] at cn
  have Cn := Lib.hid cn
  clear cn hD hl hk
  go_enter Tryd.func31, Tryd.ntmps31
  go_wp2_with fail
  refine (Cn.out _).mono ?_
  rintro e w2 ⟨rfl, hB⟩
  have c0 : w2.cell? ⟨w.heap.size, 0, none⟩ = some (.int .u16 129) := (hB.cell (p := ⟨w.heap.size, 0, none⟩) (by simp)).trans (by simp [go_sem])
  have HB := Lib.hid (((Below.refl w.heap.size w).alloc (Nat.le_refl _) _).trans (hB.mono (by simp)))
  clear hB
  go_wp2_with fail
  go_ret
  exact ⟨rfl, HB.out⟩
theorem plain_132 (jt jf k : Nat) (w : World) (hk : k ≤ 4294967295) (D : List UInt8) (hD : dcl k = D) : Calls Tryd.prog 31 #[.agg #[.int .u16 132, .int .u8 jt, .int .u8 jf, .int .u32 k]] w fun e w' => e = .returned (.string (bs [110, 101, 103])) ∧ Below w.heap.size w w' := by
  have hl := dcl_len k
  rw [hD] at hl
  have cn := fun W => num_any k W hk
  rw [hD] at cn
  have Cn := Lib.hid cn
  clear cn hD hl hk
  go_enter Tryd.func31, Tryd.ntmps31
  go_wp2_with fail
  refine (Cn.out _).mono ?_
  rintro e w2 ⟨rfl, hB⟩
  have c0 : w2.cell? ⟨w.heap.size, 0, none⟩ = some (.int .u16 132) := (hB.cell (p := ⟨w.heap.size, 0, none⟩) (by simp)).trans (by simp [go_sem])
  have HB := Lib.hid (((Below.refl w.heap.size w).alloc (Nat.le_refl _) _).trans (hB.mono (by simp)))
  clear hB
  go_wp2_with fail
  go_ret
  exact ⟨rfl, HB.out⟩
theorem plain_135 (jt jf k : Nat) (w : World) (hk : k ≤ 4294967295) (D : List UInt8) (hD : dcl k = D) : Calls Tryd.prog 31 #[.agg #[.int .u16 135, .int .u8 jt, .int .u8 jf, .int .u32 k]] w fun e w' => e = .returned (.string (bs [116, 120, 97])) ∧ Below w.heap.size w w' := by
  have hl := dcl_len k
  rw [hD] at hl
  have cn := fun W => num_any k W hk
  rw [hD] at cn
  have Cn := Lib.hid cn
  clear cn hD hl hk
  go_enter Tryd.func31, Tryd.ntmps31
  go_wp2_with fail
  refine (Cn.out _).mono ?_
  rintro e w2 ⟨rfl, hB⟩
  have c0 : w2.cell? ⟨w.heap.size, 0, none⟩ = some (.int .u16 135) := (hB.cell (p := ⟨w.heap.size, 0, none⟩) (by simp)).trans (by simp [go_sem])
  have HB := Lib.hid (((Below.refl w.heap.size w).alloc (Nat.le_refl _) _).trans (hB.mono (by simp)))
  clear hB
  go_wp2_with fail
  go_ret
  exact ⟨rfl, HB.out⟩
theorem plain_177 (jt jf k : Nat) (w : World) (hk : k ≤ 4294967295) (D : List UInt8) (hD : dcl k = D) : Calls Tryd.prog 31 #[.agg #[.int .u16 177, .int .u8 jt, .int .u8 jf, .int .u32 k]] w fun e w' => e = .returned (.string (bs ([108, 100, 120, 98, 32, 52, 42, 40, 91] ++ D ++ [93, 38, 49, 53, 41]))) ∧ Below w.heap.size w w' := by
  have hl := dcl_len k
  rw [hD] at hl
  obtain ⟨E1, hE1⟩ : ∃ E, [108, 100, 120, 98, 32, 52, 42, 40, 91] ++ D = E := ⟨_, rfl⟩
  have a1 : ∀ W, (Op.stringOp .add ⟨#[108, 100, 120, 98, 32, 52, 42, 40, 91]⟩ (bs D)).run Tryd.prog W = .ok (.string (bs E1)) W := fun W => add_two [108, 100, 120, 98, 32, 52, 42, 40, 91] D _ (by simp only [List.length_cons, List.length_nil]; omega) hE1 W
  obtain ⟨E2, hE2⟩ : ∃ E, E1 ++ [93, 38, 49, 53, 41] = E := ⟨_, rfl⟩
  have a2 : ∀ W, (Op.stringOp .add (bs E1) ⟨#[93, 38, 49, 53, 41]⟩).run Tryd.prog W = .ok (.string (bs E2)) W := fun W => add_two E1 [93, 38, 49, 53, 41] _ (by rw [← hE1]; simp only [List.length_append, List.length_cons, List.length_nil]; omega) hE2 W
  rw [hE1, hE2]
  clear hE1 hE2
  have cn := fun W => num_any k W hk
  rw [hD] at cn
  have Cn := Lib.hid cn
  clear cn hD hl hk
  go_enter Tryd.func31, Tryd.ntmps31
  go_wp2_with fail
  refine (Cn.out _).mono ?_
  rintro e w2 ⟨rfl, hB⟩
  have c0 : w2.cell? ⟨w.heap.size, 0, none⟩ = some (.int .u16 177) := (hB.cell (p := ⟨w.heap.size, 0, none⟩) (by simp)).trans (by simp [go_sem])
  have HB := Lib.hid (((Below.refl w.heap.size w).alloc (Nat.le_refl _) _).trans (hB.mono (by simp)))
  clear hB
  go_wp2_with fail
  go_ret
  exact ⟨rfl, HB.out⟩
theorem plain_any (i : Ins) (w : World) (hi : InsOk i) (hk : knownB i.code = true) (h : (rjL.contains i.code || roL.contains i.code) = false) : Calls Tryd.prog 31 #[aggN i] w fun e w' => e = .returned (.string (bs (fillL (formL i.code) i))) ∧ Below w.heap.size w w' := by
  obtain ⟨c, jt, jf, k⟩ := i
  have h4 := hi.k
  simp only at hk h h4 ⊢
  rw [all_known] at hk
  have hm : c ∈ allL := by simpa using hk
  simp only [allL, List.mem_cons, List.not_mem_nil, or_false] at hm
  rcases hm with rfl | rfl | rfl | rfl | rfl | rfl | rfl | rfl | rfl | rfl | rfl | rfl | rfl | rfl | rfl | rfl | rfl | rfl | rfl | rfl | rfl | rfl | rfl | rfl | rfl | rfl | rfl | rfl | rfl | rfl | rfl | rfl | rfl | rfl | rfl | rfl | rfl | rfl | rfl | rfl | rfl | rfl | rfl | rfl | rfl | rfl | rfl | rfl | rfl
  · refine (plain_0 jt jf k w h4 _ rfl).mono ?_
    rintro e w2 ⟨rfl, hB⟩
    refine ⟨?_, hB⟩
    simp [fillL, formL, fillC]
  · refine (plain_1 jt jf k w h4 _ rfl).mono ?_
    rintro e w2 ⟨rfl, hB⟩
    refine ⟨?_, hB⟩
    simp [fillL, formL, fillC]
  · refine (plain_2 jt jf k w h4 _ rfl).mono ?_
    rintro e w2 ⟨rfl, hB⟩
    refine ⟨?_, hB⟩
    simp [fillL, formL, fillC]
  · refine (plain_3 jt jf k w h4 _ rfl).mono ?_
    rintro e w2 ⟨rfl, hB⟩
    refine ⟨?_, hB⟩
    simp [fillL, formL, fillC]
  · exact absurd h (by decide)
  · refine (plain_5 jt jf k w h4 _ rfl).mono ?_
    rintro e w2 ⟨rfl, hB⟩
    refine ⟨?_, hB⟩
    simp [fillL, formL, fillC]
  · refine (plain_6 jt jf k w h4 _ rfl).mono ?_
    rintro e w2 ⟨rfl, hB⟩
    refine ⟨?_, hB⟩
    simp [fillL, formL, fillC]
  · refine (plain_7 jt jf k w h4 _ rfl).mono ?_
    rintro e w2 ⟨rfl, hB⟩
    refine ⟨?_, hB⟩
    simp [fillL, formL, fillC]
  · exact absurd h (by decide)
  · exact absurd h (by decide)
  · exact absurd h (by decide)
  · refine (plain_22 jt jf k w h4 _ rfl).mono ?_
    rintro e w2 ⟨rfl, hB⟩
    refine ⟨?_, hB⟩
    simp [fillL, formL, fillC]
  · exact absurd h (by decide)
  · exact absurd h (by decide)
  · refine (plain_32 jt jf k w h4 _ rfl).mono ?_
    rintro e w2 ⟨rfl, hB⟩
    refine ⟨?_, hB⟩
    simp [fillL, formL, fillC]
  · exact absurd h (by decide)
  · exact absurd h (by decide)
  · refine (plain_40 jt jf k w h4 _ rfl).mono ?_
    rintro e w2 ⟨rfl, hB⟩
    refine ⟨?_, hB⟩
    simp [fillL, formL, fillC]
  · exact absurd h (by decide)
  · exact absurd h (by decide)
  · refine (plain_48 jt jf k w h4 _ rfl).mono ?_
    rintro e w2 ⟨rfl, hB⟩
    refine ⟨?_, hB⟩
    simp [fillL, formL, fillC]
  · exact absurd h (by decide)
  · exact absurd h (by decide)
  · exact absurd h (by decide)
  · exact absurd h (by decide)
  · refine (plain_64 jt jf k w h4 _ rfl).mono ?_
    rintro e w2 ⟨rfl, hB⟩
    refine ⟨?_, hB⟩
    simp [fillL, formL, fillC]
  · exact absurd h (by decide)
  · exact absurd h (by decide)
  · refine (plain_72 jt jf k w h4 _ rfl).mono ?_
    rintro e w2 ⟨rfl, hB⟩
    refine ⟨?_, hB⟩
    simp [fillL, formL, fillC]
  · exact absurd h (by decide)
  · exact absurd h (by decide)
  · refine (plain_80 jt jf k w h4 _ rfl).mono ?_
    rintro e w2 ⟨rfl, hB⟩
    refine ⟨?_, hB⟩
    simp [fillL, formL, fillC]
  · exact absurd h (by decide)
  · exact absurd h (by decide)
  · refine (plain_96 jt jf k w h4 _ rfl).mono ?_
    rintro e w2 ⟨rfl, hB⟩
    refine ⟨?_, hB⟩
    simp [fillL, formL, fillC]
  · refine (plain_97 jt jf k w h4 _ rfl).mono ?_
    rintro e w2 ⟨rfl, hB⟩
    refine ⟨?_, hB⟩
    simp [fillL, formL, fillC]
  · exact absurd h (by decide)
  · exact absurd h (by decide)
  · exact absurd h (by decide)
  · exact absurd h (by decide)
  · refine (plain_128 jt jf k w h4 _ rfl).mono ?_
    rintro e w2 ⟨rfl, hB⟩
    refine ⟨?_, hB⟩
    simp [fillL, formL, fillC]
  · refine (plain_129 jt jf k w h4 _ rfl).mono ?_
    rintro e w2 ⟨rfl, hB⟩
    refine ⟨?_, hB⟩
    simp [fillL, formL, fillC]
  · refine (plain_132 jt jf k w h4 _ rfl).mono ?_
    rintro e w2 ⟨rfl, hB⟩
    refine ⟨?_, hB⟩
    simp [fillL, formL, fillC]
  · refine (plain_135 jt jf k w h4 _ rfl).mono ?_
    rintro e w2 ⟨rfl, hB⟩
    refine ⟨?_, hB⟩
    simp [fillL, formL, fillC]
  · exact absurd h (by decide)
  · exact absurd h (by decide)
  · exact absurd h (by decide)
  · exact absurd h (by decide)
  · refine (plain_177 jt jf k w h4 _ rfl).mono ?_
    rintro e w2 ⟨rfl, hB⟩
    refine ⟨?_, hB⟩
    simp [fillL, formL, fillC]
end Go.Proofs.YtckbcmoanadckaaDoor
