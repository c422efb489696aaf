/- LByte, LRun, LRun2, one behind the other. -/
import Derived.Test.YtffkaphbgfdpaaaGreatDoorChecked
import Derived.WalkKit
import Derived.ProofKit
import Derived.Lib.Hide
import Derived.BigGuard
import Derived.LoopTactic
import Derived.Shelf.Abstract
section
/- Kinds of bytes. -/
namespace Go.Proofs.YtffkaphbgfdpaaaGreatDoor.L
open Go.RowKit
set_option linter.unusedVariables false
set_option maxRecDepth 100000
set_option linter.unusedSimpArgs false

def digitB (c : Int) : Bool := decide (48 ≤ c) && decide (c ≤ 57)
def letterB (c : Int) : Bool := decide (97 ≤ c) && decide (c ≤ 122)
def hexB (c : Int) : Bool := digitB c || (decide (97 ≤ c) && decide (c ≤ 102))
def blankB (c : Int) : Bool := c == 32 || c == 9 || c == 10 || c == 13
def sixB (c : Int) : Bool := hexB c || c == 58
def quadB (c : Int) : Bool := digitB c || c == 46
def wordB (c : Int) : Bool := digitB c || letterB c
/-- What a digit of base 16 is; none: -1. -/
def digitV (c : Int) : Int := if digitB c then c - 48 else if decide (97 ≤ c) && decide (c ≤ 102) then c - 87 else -1
theorem digit_any (c : Int) (w : World) : Calls Tryz.prog 106 #[.int .u8 c] w fun e w' => e = .returned (.bool (digitB c)) ∧ w = w' := by
  cases h0 : decide (48 ≤ c) <;> cases h1 : decide (c ≤ 57) <;>
  · go_enter Tryz.func106, Tryz.ntmps106
    go_wp2
    all_goals (go_ret; simp_all [digitB, letterB, hexB, blankB, sixB, quadB, wordB, digitV])
theorem letter_any (c : Int) (w : World) : Calls Tryz.prog 108 #[.int .u8 c] w fun e w' => e = .returned (.bool (letterB c)) ∧ w = w' := by
  cases h0 : decide (97 ≤ c) <;> cases h1 : decide (c ≤ 122) <;>
  · go_enter Tryz.func108, Tryz.ntmps108
    go_wp2
    all_goals (go_ret; simp_all [digitB, letterB, hexB, blankB, sixB, quadB, wordB, digitV])
theorem hex_any (c : Int) (w : World) : Calls Tryz.prog 104 #[.int .u8 c] w fun e w' => e = .returned (.bool (hexB c)) ∧ w = w' := by
  cases h0 : decide (48 ≤ c) <;> cases h1 : decide (c ≤ 57) <;> cases h2 : decide (97 ≤ c) <;> cases h3 : decide (c ≤ 102) <;>
  · go_enter Tryz.func104, Tryz.ntmps104
    go_wp2
    all_goals (go_ret; simp_all [digitB, letterB, hexB, blankB, sixB, quadB, wordB, digitV])
theorem six_any (c : Int) (w : World) : Calls Tryz.prog 103 #[.int .u8 c] w fun e w' => e = .returned (.bool (sixB c)) ∧ w = w' := by
  cases h0 : decide (48 ≤ c) <;> cases h1 : decide (c ≤ 57) <;> cases h2 : decide (97 ≤ c) <;> cases h3 : decide (c ≤ 102) <;> cases h4 : (c == 58) <;>
  · go_enter Tryz.func103, Tryz.ntmps103
    go_wp2
    all_goals (go_ret; simp_all [digitB, letterB, hexB, blankB, sixB, quadB, wordB, digitV])
theorem word_any (c : Int) (w : World) : Calls Tryz.prog 109 #[.int .u8 c] w fun e w' => e = .returned (.bool (wordB c)) ∧ w = w' := by
  cases h0 : decide (97 ≤ c) <;> cases h1 : decide (c ≤ 122) <;> cases h2 : decide (48 ≤ c) <;> cases h3 : decide (c ≤ 57) <;>
  · go_enter Tryz.func109, Tryz.ntmps109
    go_wp2
    all_goals (go_ret; simp_all [digitB, letterB, hexB, blankB, sixB, quadB, wordB, digitV])
theorem quad_any (c : Int) (w : World) : Calls Tryz.prog 132 #[.int .u8 c] w fun e w' => e = .returned (.bool (quadB c)) ∧ w = w' := by
  cases h0 : decide (48 ≤ c) <;> cases h1 : decide (c ≤ 57) <;> cases h2 : (c == 46) <;>
  · go_enter Tryz.func132, Tryz.ntmps132
    go_wp2
    all_goals (go_ret; simp_all [digitB, letterB, hexB, blankB, sixB, quadB, wordB, digitV])
theorem word2_any (c : Int) (w : World) : Calls Tryz.prog 134 #[.int .u8 c] w fun e w' => e = .returned (.bool (wordB c)) ∧ w = w' := by
  cases h0 : decide (48 ≤ c) <;> cases h1 : decide (c ≤ 57) <;> cases h2 : decide (97 ≤ c) <;> cases h3 : decide (c ≤ 122) <;>
  · go_enter Tryz.func134, Tryz.ntmps134
    go_wp2
    all_goals (go_ret; simp_all [digitB, letterB, hexB, blankB, sixB, quadB, wordB, digitV])
theorem blank_any (c : Int) (w : World) : Calls Tryz.prog 51 #[.int .u8 c] w fun e w' => e = .returned (.bool (blankB c)) ∧ w = w' := by
  cases h0 : (c == 32) <;> cases h1 : (c == 9) <;> cases h2 : (c == 10) <;> cases h3 : (c == 13) <;>
  · go_enter Tryz.func51, Tryz.ntmps51
    go_wp2
    all_goals (go_ret; simp_all [digitB, letterB, hexB, blankB, sixB, quadB, wordB, digitV])
end Go.Proofs.YtffkaphbgfdpaaaGreatDoor.L
end

section
/- Runs of bytes of a kind. -/
namespace Go.Proofs.YtffkaphbgfdpaaaGreatDoor.L
open Go.RowKit Go.Shelf
set_option linter.unusedVariables false
set_option maxRecDepth 100000
set_option linter.unusedSimpArgs false

/-- How long the longest run of a kind is. -/
def runN (p : Int → Bool) (l : List UInt8) : Nat := (l.takeWhile fun b => p (b.toNat : Int)).length
theorem runN_le (p : Int → Bool) (l : List UInt8) : runN p l ≤ l.length := by
  induction l with
  | nil => exact Nat.le_refl _
  | cons b l ih =>
    unfold runN at ih ⊢
    rw [List.takeWhile_cons]
    split
    · simp only [List.length_cons]; omega
    · simp
theorem runN_cons (p : Int → Bool) (b : UInt8) (l : List UInt8) : runN p (b :: l) = if p (b.toNat : Int) then runN p l + 1 else 0 := by
  unfold runN
  rw [List.takeWhile_cons]
  split <;> simp
theorem runN_step (p : Int → Bool) : ∀ (l : List UInt8) (i : Nat) (h : i < l.length), i ≤ runN p l → (p (l[i].toNat : Int) = true → i + 1 ≤ runN p l) ∧ (p (l[i].toNat : Int) = false → i = runN p l)
  | b :: l, 0, h, hi => by
    rw [runN_cons]
    constructor
    · intro hp
      have hp : p (b.toNat : Int) = true := hp
      rw [if_pos hp]; omega
    · intro hp
      have hp : p (b.toNat : Int) = false := hp
      rw [if_neg (by simp [hp])]
  | b :: l, i + 1, h, hi => by
    rw [runN_cons] at hi ⊢
    by_cases hp : p (b.toNat : Int) = true
    · rw [if_pos hp] at hi ⊢
      obtain ⟨q1, q2⟩ := runN_step p l i (by simpa using h) (by omega)
      exact ⟨fun e => by have := q1 e; omega, fun e => by have := q2 e; omega⟩
    · rw [if_neg hp] at hi
      omega
theorem byte_get (s : ByteArray) (i : Nat) (h : i < s.size) : s.data.toList[i]'(by simpa using h) = s[i] := by
  rw [Array.getElem_toList]
  rfl
theorem size_list (s : ByteArray) : s.data.toList.length = s.size := by simp
/-- What a function value of a kind of bytes answers. -/
def FnC (f : Nat) (p : Int → Bool) : Prop := Enters Tryz.prog f ∧ ∀ (c : Int) (w : World), Calls Tryz.prog f #[.int .u8 c] w fun e w' => e = .returned (.bool (p c)) ∧ w = w'
set_option maxRecDepth 100000 in
theorem run_any (f : Nat) (p : Int → Bool) (hf : FnC f p) (s : ByteArray) (w : World) (hs : s.size ≤ 9223372036854775807) :
    Calls Tryz.prog 102 #[.string s, .func (.func f) #[] #[]] w fun e w' => e = .returned (.string (s.extract 0 (runN p s.data.toList))) ∧ w = w' := by
  have HF := Lib.hid hf
  have he := hf.1
  unfold Enters at he
  have hr := runN_le p s.data.toList
  rw [size_list] at hr
  have Hr := Lib.hid hr
  clear hf hr
  go_enter Tryz.func102, Tryz.ntmps102
  go_wp2_with fail
  go_loopw [5] (fun x wr => ∃ i : Nat, x = .int .i64 i ∧ i ≤ runN p s.data.toList ∧ w = wr) (fun x _ => s.size - (intOf x).toNat)
  case atStart => exact ⟨0, rfl, by omega, rfl⟩
  case round =>
    obtain ⟨i, rfl, hi, rfl⟩ := hrel
    have Hi := Lib.hid hi
    clear hi
    by_cases hlt : i < s.size
    · have i0 : (0 : Int) ≤ (i : Int) := by omega
      have i1 : (i : Int) < (s.size : Int) := by omega
      have hstep := runN_step p s.data.toList i (by rw [size_list]; exact hlt) Hi.out
      rw [byte_get s i hlt] at hstep
      have Hstep := Lib.hid hstep
      clear hstep
      go_wp2_with fail
      refine (HF.out.2 _ _).mono ?_
      obtain ⟨b, hb⟩ : ∃ b, p (s[i].toNat : Int) = b := ⟨_, rfl⟩
      have hstep := Hstep.out
      rw [hb] at hstep ⊢
      rintro e w2 ⟨rfl, rfl⟩
      have Hs := Lib.hid hstep
      clear hstep hb
      cases b with
      | true =>
        go_wp2_with fail
        go_round
        case rel => exact ⟨i + 1, by go_num, Hs.out.1 trivial, trivial⟩
        case measure => simp [intOf]; omega
      | false =>
        have hin := Hs.out.2 rfl
        have Hin := Lib.hid hin
        have i2 : (i : Int) ≤ (s.size : Int) := by omega
        clear hin
        go_wp2_with fail
        go_ret
        rw [← Hin.out]
        exact ⟨rfl, rfl⟩
    · have hi0 := Hi.out
      have hrr := Hr.out
      have hie : i = runN p s.data.toList := by omega
      have Hie := Lib.hid hie
      have i2 : ¬ (i : Int) < (s.size : Int) := by omega
      have i3 : (i : Int) ≤ (s.size : Int) := by omega
      have i4 : (0 : Int) ≤ (i : Int) := by omega
      clear hie hi0 hrr
      go_wp2_with fail
      go_ret
      rw [← Hie.out]
      exact ⟨rfl, rfl⟩
theorem fn_six : FnC 103 sixB := ⟨fun _ _ => rfl, six_any⟩
theorem fn_word : FnC 109 wordB := ⟨fun _ _ => rfl, word_any⟩
theorem fn_quad : FnC 132 quadB := ⟨fun _ _ => rfl, quad_any⟩
theorem fn_word2 : FnC 134 wordB := ⟨fun _ _ => rfl, word2_any⟩
end Go.Proofs.YtffkaphbgfdpaaaGreatDoor.L
end

section
/- The document's runs of bytes. -/
namespace Go.Proofs.YtffkaphbgfdpaaaGreatDoor.L
open Go.RowKit Go.Shelf
set_option linter.unusedVariables false
set_option maxRecDepth 100000
set_option linter.unusedSimpArgs false

def kindB (k : Int) : Int → Bool := if k = 1 then sixB else if k = 2 then quadB else wordB
theorem hexB_val (c : Int) : decide (digitV c ≥ 0) = hexB c := by
  unfold digitV hexB
  cases h : digitB c with
  | true =>
    have : 48 ≤ c := by unfold digitB at h; simp at h; omega
    simp
    omega
  | false =>
    simp only [Bool.false_eq_true, if_false, Bool.false_or]
    cases h2 : (decide (97 ≤ c) && decide (c ≤ 102)) with
    | true => simp at h2; simp; omega
    | false => simp
theorem u8_range (b : UInt8) : (0 : Int) ≤ (b.toNat : Int) ∧ (b.toNat : Int) ≤ 255 := by
  have := b.toNat_lt
  omega
end Go.Proofs.YtffkaphbgfdpaaaGreatDoor.L
end
