/- What Lex gives, in plain Lean. -/
import Derived.Test.YtoknkgeojhekoaaDoorToks
namespace Go.Proofs.YtoknkgeojhekoaaDoor
open Go.RowKit Go.Shelf
set_option linter.unusedVariables false
set_option linter.unusedSimpArgs false

abbrev LexR := Except (Nat × Int) (List Tk)
def preL (ts : List Tk) : LexR → LexR
  | .ok us => .ok (ts ++ us)
  | .error e => .error e
theorem preL_nil (r : LexR) : preL [] r = r := by cases r <;> rfl
theorem preL_append (a b : List Tk) (r : LexR) : preL (a ++ b) r = preL a (preL b r) := by
  cases r with
  | ok us => show Except.ok _ = Except.ok _; rw [List.append_assoc]
  | error e => rfl
/-- The token that is ahead, at its place. -/
def tkAt (l : List UInt8) (at0 : Nat) : Tk := ⟨(tokR l).kind, at0, ⟨(l.take (tokR l).len).toArray⟩, (tokR l).n⟩
def lexF : Nat → List UInt8 → Nat → LexR
  | 0, _, at0 => .error (at0, 0)
  | f + 1, [], at0 => .ok [⟨0, at0, ⟨#[]⟩, 0⟩]
  | f + 1, b :: l, at0 => if blankB (b.toNat : Int) then lexF f l (at0 + 1)
    else if (tokR (b :: l)).err ≠ 0 then .error (at0, (tokR (b :: l)).err)
    else preL [tkAt (b :: l) at0] (lexF f ((b :: l).drop (tokR (b :: l)).len) (at0 + (tokR (b :: l)).len))
def lexL (l : List UInt8) (at0 : Nat) : LexR := lexF (l.length + 1) l at0
theorem runN_pos {p : Int → Bool} {b : UInt8} {l : List UInt8} (h : p (b.toNat : Int) = true) : 1 ≤ runN p (b :: l) := by
  rw [runN_cons, if_pos h]
  omega
theorem word_digit {c : Int} (h : digitB c = true) : wordB c = true ∧ quadB c = true ∧ sixB c = true := by
  unfold wordB quadB sixB hexB
  rw [h]
  exact ⟨rfl, rfl, rfl⟩
theorem word_letter {c : Int} (h : letterB c = true) : wordB c = true := by
  unfold wordB
  rw [h, Bool.or_true]
theorem tokR_len {b : UInt8} {l : List UInt8} (h : (tokR (b :: l)).err = 0) : 1 ≤ (tokR (b :: l)).len ∧ (tokR (b :: l)).len ≤ l.length + 1 := by
  have hh : hdI (b :: l) = (b.toNat : Int) := rfl
  have le : ∀ p, runN p (b :: l) ≤ l.length + 1 := fun p => runN_le p (b :: l)
  unfold tokR at h ⊢
  rw [hh] at h ⊢
  split
  · rename_i h2
    have h3 : ((b :: l).take (runN sixB (b :: l))).count 58 ≤ ((b :: l).take (runN sixB (b :: l))).length := List.count_le_length
    rw [List.length_take] at h3
    exact ⟨by show 1 ≤ runN sixB (b :: l); omega, le _⟩
  · rename_i h2
    rw [if_neg h2] at h
    split
    · rename_i hd
      rw [if_pos hd] at h
      obtain ⟨w1, w2, w3⟩ := word_digit hd
      unfold figR at h ⊢
      split
      · exact ⟨runN_pos w2, le _⟩
      · rename_i h4
        rw [if_neg h4] at h
        split
        · exact ⟨runN_pos w1, le _⟩
        · rename_i h5
          rw [h5] at h
          cases h
    · rename_i hd
      rw [if_neg hd] at h
      split
      · rename_i hl
        exact ⟨runN_pos (word_letter hl), le _⟩
      · rename_i hl
        rw [if_neg hl] at h
        split
        · rename_i hz
          rw [if_pos hz] at h
          cases h
        · rename_i hz
          exact ⟨by show 1 ≤ signN (b :: l); omega, (signN_le (b :: l)).2⟩
theorem lexF_fuel : ∀ (f g : Nat) (l : List UInt8) (at0 : Nat), l.length < f → l.length < g → lexF f l at0 = lexF g l at0
  | 0, _, _, _, h, _ => by cases h
  | _ + 1, 0, _, _, _, h => by cases h
  | f + 1, g + 1, [], at0, _, _ => rfl
  | f + 1, g + 1, b :: l, at0, hf, hg => by
    unfold lexF
    rw [List.length_cons] at hf hg
    rw [lexF_fuel f g l (at0 + 1) (by omega) (by omega)]
    by_cases he : (tokR (b :: l)).err = 0
    · have hl := tokR_len he
      rw [lexF_fuel f g ((b :: l).drop (tokR (b :: l)).len) _ (by rw [List.length_drop, List.length_cons]; omega) (by rw [List.length_drop, List.length_cons]; omega)]
    · rw [if_pos he, if_pos he]
theorem lexL_nil (at0 : Nat) : lexL [] at0 = .ok [⟨0, at0, ⟨#[]⟩, 0⟩] := rfl
theorem lexL_blank {b : UInt8} {l : List UInt8} {at0 : Nat} (h : blankB (b.toNat : Int) = true) : lexL (b :: l) at0 = lexL l (at0 + 1) := by
  unfold lexL
  rw [List.length_cons]
  conv => lhs; unfold lexF
  rw [if_pos h]
theorem lexL_bad {b : UInt8} {l : List UInt8} {at0 : Nat} (h : blankB (b.toNat : Int) = false) (he : (tokR (b :: l)).err ≠ 0) : lexL (b :: l) at0 = .error (at0, (tokR (b :: l)).err) := by
  unfold lexL
  rw [List.length_cons]
  unfold lexF
  rw [if_neg (by rw [h]; simp), if_pos he]
theorem lexL_tok {b : UInt8} {l : List UInt8} {at0 : Nat} (h : blankB (b.toNat : Int) = false) (he : (tokR (b :: l)).err = 0) : lexL (b :: l) at0 = preL [tkAt (b :: l) at0] (lexL ((b :: l).drop (tokR (b :: l)).len) (at0 + (tokR (b :: l)).len)) := by
  unfold lexL
  rw [List.length_cons]
  conv => lhs; unfold lexF
  rw [if_neg (by rw [h]; simp), if_neg (by rw [he]; simp)]
  have hl := tokR_len he
  rw [lexF_fuel (l.length + 1) (((b :: l).drop (tokR (b :: l)).len).length + 1) _ _ (by rw [List.length_drop, List.length_cons]; omega) (by omega)]
/-- What Lex gives. -/
def lexS (s : ByteArray) : LexR := if 65536 < s.size then .error (0, 100) else lexL s.data.toList 0
/-- In memory. -/
def LexPost (w : World) (R : LexR) (e : Ending) (w' : World) : Prop := Below w.heap.size w w' ∧ match R with
  | .error p => e = .returned (.tuple #[.slice none 0 0, .int .i64 p.1, .int .i64 p.2])
  | .ok ts => ∃ g cap, e = .returned (.tuple #[.slice (some ⟨g, 0, none⟩) ts.length cap, .int .i64 0, .int .i64 0]) ∧ OwnG 4 encT 32 w' w.heap.size (.slice (some ⟨g, 0, none⟩) ts.length cap) ts
theorem extract_take (s : ByteArray) (a n : Nat) : s.extract a (a + n) = ⟨((s.data.toList.drop a).take n).toArray⟩ := by
  apply ByteArray.ext
  apply Array.toList_inj.1
  rw [extract_list]
  simp
end Go.Proofs.YtoknkgeojhekoaaDoor
