/- Kinds of bytes. -/
import Derived.Test.YtoknkgeojhekoaaDoorChecked
import Derived.WalkKit
import Derived.ProofKit
import Derived.Lib.Hide
import Derived.BigGuard
namespace Go.Proofs.YtoknkgeojhekoaaDoor
open Go.RowKit
set_option linter.unusedVariables false
set_option linter.unusedSimpArgs false

def digitB (c : Int) : Bool := decide (48 ≤ c) && decide (c ≤ 57)
def letterB (c : Int) : Bool := decide (97 ≤ c) && decide (c ≤ 122)
def hexB (c : Int) : Bool := digitB c || (decide (97 ≤ c) && decide (c ≤ 102))
def blankB (c : Int) : Bool := c == 32 || c == 9 || c == 10 || c == 13
def sixB (c : Int) : Bool := hexB c || c == 58
def quadB (c : Int) : Bool := digitB c || c == 46
def wordB (c : Int) : Bool := digitB c || letterB c
/-- What a digit of base 16 is; none: -1. -/
def digitV (c : Int) : Int := if digitB c then c - 48 else if decide (97 ≤ c) && decide (c ≤ 102) then c - 87 else -1
theorem digit_any (c : Int) (w : World) : Calls Tryd.prog 31 #[.int .u8 c] w fun e w' => e = .returned (.bool (digitB c)) ∧ w = w' := by
  cases h0 : decide (48 ≤ c) <;> cases h1 : decide (c ≤ 57) <;>
  · go_enter Tryd.func31, Tryd.ntmps31
    go_wp2
    all_goals (go_ret; simp_all [digitB, letterB, hexB, blankB, sixB, quadB, wordB, digitV])
theorem letter_any (c : Int) (w : World) : Calls Tryd.prog 33 #[.int .u8 c] w fun e w' => e = .returned (.bool (letterB c)) ∧ w = w' := by
  cases h0 : decide (97 ≤ c) <;> cases h1 : decide (c ≤ 122) <;>
  · go_enter Tryd.func33, Tryd.ntmps33
    go_wp2
    all_goals (go_ret; simp_all [digitB, letterB, hexB, blankB, sixB, quadB, wordB, digitV])
theorem hex_any (c : Int) (w : World) : Calls Tryd.prog 29 #[.int .u8 c] w fun e w' => e = .returned (.bool (hexB c)) ∧ w = w' := by
  cases h0 : decide (48 ≤ c) <;> cases h1 : decide (c ≤ 57) <;> cases h2 : decide (97 ≤ c) <;> cases h3 : decide (c ≤ 102) <;>
  · go_enter Tryd.func29, Tryd.ntmps29
    go_wp2
    all_goals (go_ret; simp_all [digitB, letterB, hexB, blankB, sixB, quadB, wordB, digitV])
theorem six_any (c : Int) (w : World) : Calls Tryd.prog 28 #[.int .u8 c] w fun e w' => e = .returned (.bool (sixB c)) ∧ w = w' := by
  cases h0 : decide (48 ≤ c) <;> cases h1 : decide (c ≤ 57) <;> cases h2 : decide (97 ≤ c) <;> cases h3 : decide (c ≤ 102) <;> cases h4 : (c == 58) <;>
  · go_enter Tryd.func28, Tryd.ntmps28
    go_wp2
    all_goals (go_ret; simp_all [digitB, letterB, hexB, blankB, sixB, quadB, wordB, digitV])
theorem word_any (c : Int) (w : World) : Calls Tryd.prog 34 #[.int .u8 c] w fun e w' => e = .returned (.bool (wordB c)) ∧ w = w' := by
  cases h0 : decide (97 ≤ c) <;> cases h1 : decide (c ≤ 122) <;> cases h2 : decide (48 ≤ c) <;> cases h3 : decide (c ≤ 57) <;>
  · go_enter Tryd.func34, Tryd.ntmps34
    go_wp2
    all_goals (go_ret; simp_all [digitB, letterB, hexB, blankB, sixB, quadB, wordB, digitV])
theorem quad_any (c : Int) (w : World) : Calls Tryd.prog 42 #[.int .u8 c] w fun e w' => e = .returned (.bool (quadB c)) ∧ w = w' := by
  cases h0 : decide (48 ≤ c) <;> cases h1 : decide (c ≤ 57) <;> cases h2 : (c == 46) <;>
  · go_enter Tryd.func42, Tryd.ntmps42
    go_wp2
    all_goals (go_ret; simp_all [digitB, letterB, hexB, blankB, sixB, quadB, wordB, digitV])
theorem word2_any (c : Int) (w : World) : Calls Tryd.prog 44 #[.int .u8 c] w fun e w' => e = .returned (.bool (wordB c)) ∧ w = w' := by
  cases h0 : decide (48 ≤ c) <;> cases h1 : decide (c ≤ 57) <;> cases h2 : decide (97 ≤ c) <;> cases h3 : decide (c ≤ 122) <;>
  · go_enter Tryd.func44, Tryd.ntmps44
    go_wp2
    all_goals (go_ret; simp_all [digitB, letterB, hexB, blankB, sixB, quadB, wordB, digitV])
theorem blank_any (c : Int) (w : World) : Calls Tryd.prog 20 #[.int .u8 c] w fun e w' => e = .returned (.bool (blankB c)) ∧ w = w' := by
  cases h0 : (c == 32) <;> cases h1 : (c == 9) <;> cases h2 : (c == 10) <;> cases h3 : (c == 13) <;>
  · go_enter Tryd.func20, Tryd.ntmps20
    go_wp2
    all_goals (go_ret; simp_all [digitB, letterB, hexB, blankB, sixB, quadB, wordB, digitV])
theorem rblank_any (c : Int) (w : World) : Calls Tryd.prog 15 #[.int .u8 c] w fun e w' => e = .returned (.bool (blankB c)) ∧ w = w' := by
  cases h0 : (c == 32) <;> cases h1 : (c == 9) <;> cases h2 : (c == 10) <;> cases h3 : (c == 13) <;>
  · go_enter Tryd.func15, Tryd.ntmps15
    go_wp2
    all_goals (go_ret; simp_all [digitB, letterB, hexB, blankB, sixB, quadB, wordB, digitV])
theorem rdigit_any (c : Int) (w : World) : Calls Tryd.prog 24 #[.int .u8 c] w fun e w' => e = .returned (.bool (digitB c)) ∧ w = w' := by
  cases h0 : decide (48 ≤ c) <;> cases h1 : decide (c ≤ 57) <;>
  · go_enter Tryd.func24, Tryd.ntmps24
    go_wp2
    all_goals (go_ret; simp_all [digitB, letterB, hexB, blankB, sixB, quadB, wordB, digitV])
theorem rletter_any (c : Int) (w : World) : Calls Tryd.prog 26 #[.int .u8 c] w fun e w' => e = .returned (.bool (letterB c)) ∧ w = w' := by
  cases h0 : decide (97 ≤ c) <;> cases h1 : decide (c ≤ 122) <;>
  · go_enter Tryd.func26, Tryd.ntmps26
    go_wp2
    all_goals (go_ret; simp_all [digitB, letterB, hexB, blankB, sixB, quadB, wordB, digitV])
theorem dval_any (c : Int) (w : World) (h0 : 0 ≤ c) (h9 : c ≤ 255) : Calls Tryd.prog 37 #[.int .u8 c] w fun e w' => e = .returned (.int .i64 (digitV c)) ∧ w = w' := by
  by_cases h1 : 48 ≤ c <;> by_cases h2 : c ≤ 57 <;> by_cases h3 : 97 ≤ c <;> by_cases h4 : c ≤ 102 <;>
  · go_enter Tryd.func37, Tryd.ntmps37
    go_wp2
    all_goals
      go_ret
      refine ⟨?_, rfl⟩
      simp [digitV, digitB, h1, h2, h3, h4]
      try omega
end Go.Proofs.YtoknkgeojhekoaaDoor
