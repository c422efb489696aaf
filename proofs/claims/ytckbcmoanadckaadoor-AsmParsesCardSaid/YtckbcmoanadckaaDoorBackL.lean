/- Plain laws: a program's text reads as the program. -/
import Derived.Test.YtckbcmoanadckaaDoorInj
import Derived.Test.YtckbcmoanadckaaDoorPrint
namespace Go.Proofs.YtckbcmoanadckaaDoor
set_option linter.unusedVariables false
set_option linter.unusedSimpArgs false

theorem fill_no10 {f : List UInt8} (i : Ins) (h : (10 : UInt8) ∉ f) : (10 : UInt8) ∉ fillL f i := by
  intro hm
  obtain ⟨b, hb, hm⟩ := List.mem_flatMap.1 hm
  cases hF : isF b with
  | true =>
    rw [fillC_let i hF] at hm
    have := dcl_digits _ _ hm
    exact absurd this (by decide)
  | false =>
    rw [fillC_not i hF, List.mem_singleton] at hm
    exact h (hm ▸ hb)
theorem formOf_ok (i : Ins) : (10 : UInt8) ∉ formOf i ∧ formOf i ≠ [] := by
  rcases formOf_cases i with ⟨k1, _, f1⟩ | f1
  · rw [f1]
    have h : (allL.all fun c => !(formL c).contains 10 && !(formL c).isEmpty) = true := by kernel_rfl
    have h2 := List.all_eq_true.1 h _ (known_mem k1)
    simp only [Bool.and_eq_true, Bool.not_eq_true', List.contains_eq_mem, decide_eq_false_iff_not, List.isEmpty_eq_false_iff] at h2
    exact h2
  · rw [f1]
    exact ⟨by decide, by decide⟩
theorem lineL_no10 (i : Ins) : (10 : UInt8) ∉ lineL i := fill_no10 i (formOf_ok i).1
theorem fillC_pos (i : Ins) (b : UInt8) : fillC i b ≠ [] := by
  cases hF : isF b with
  | true => rw [fillC_let i hF]; exact dcl_pos _
  | false => rw [fillC_not i hF]; simp
theorem lineL_pos (i : Ins) : lineL i ≠ [] := by
  have h := (formOf_ok i).2
  unfold lineL
  cases hf : formOf i with
  | nil => exact absurd hf h
  | cons b f =>
    intro e
    have e : fillC i b ++ fillL f i = [] := e
    exact fillC_pos i b (List.append_eq_nil_iff.1 e).1
theorem linesL_lf : ∀ (x r : List UInt8), (10 : UInt8) ∉ x → linesL (x ++ 10 :: r) = x :: linesL r
  | [], r, _ => by
    rw [linesL.eq_def]
    rfl
  | b :: x, r, h => by
    have hb : ¬ b = 10 := fun e => h (e ▸ List.mem_cons_self ..)
    show linesL (b :: (x ++ 10 :: r)) = _
    rw [linesL.eq_def]
    simp only [hb, if_false]
    rw [linesL_lf x r fun hm => h (List.mem_cons_of_mem _ hm)]
theorem linesL_one : ∀ (x : List UInt8), (10 : UInt8) ∉ x → x ≠ [] → linesL x = [x]
  | [], _, h => absurd rfl h
  | b :: x, h, _ => by
    have hb : ¬ b = 10 := fun e => h (e ▸ List.mem_cons_self ..)
    rw [linesL.eq_def]
    simp only [hb, if_false]
    cases x with
    | nil => rfl
    | cons c x => rw [linesL_one (c :: x) (fun hm => h (List.mem_cons_of_mem _ hm)) (by simp)]
theorem printL_cons (i : Ins) (ps : List Ins) : printL (i :: ps) = lineL i ++ 10 :: printL ps := by
  show (lineL i ++ [10]) ++ printL ps = _
  simp
theorem linesL_print : ∀ (ps : List Ins) (r : List UInt8), linesL (printL ps ++ r) = ps.map lineL ++ linesL r
  | [], r => rfl
  | i :: ps, r => by
    rw [printL_cons, List.append_assoc]
    show linesL (lineL i ++ 10 :: (printL ps ++ r)) = _
    rw [linesL_lf _ _ (lineL_no10 i), linesL_print ps r]
    rfl
theorem parseLs_lines : ∀ (ps : List Ins) (more : List (List UInt8)) (n : Nat) (acc : List Ins), (∀ i ∈ ps, InsOk i) → n + ps.length ≤ 4097 → parseLs (ps.map lineL ++ more) n acc = parseLs more (n + ps.length) (acc ++ ps)
  | [], more, n, acc, _, _ => by simp
  | i :: ps, more, n, acc, hp, hn => by
    have hn : n + (ps.length + 1) ≤ 4097 := hn
    show parseLs (lineL i :: (ps.map lineL ++ more)) n acc = _
    rw [parseLs_good (by omega) _ _ (readL_line i (hp i (List.mem_cons_self ..))), parseLs_lines ps more _ _ (fun j hj => hp j (List.mem_cons_of_mem _ hj)) (by omega)]
    congr 1
    · simp only [List.length_cons]; omega
    · simp
theorem parse_print {ps : List Ins} (hp : ∀ i ∈ ps, InsOk i) (hl : ps.length ≤ 300) : parseL (printL ps) = ⟨ps, 0, 0⟩ := by
  have h1 := printL_len ps
  unfold parseL
  rw [if_neg (by omega)]
  have h2 := linesL_print ps []
  rw [List.append_nil] at h2
  rw [h2]
  rw [parseLs_lines ps _ 1 [] hp (by omega)]
  rfl
theorem printL_last {ps : List Ins} (h : ps ≠ []) : ∃ (qs : List Ins) (i : Ins), ps = qs ++ [i] ∧ printL ps = (printL qs ++ lineL i) ++ [10] := by
  refine ⟨ps.dropLast, ps.getLast h, (List.dropLast_concat_getLast h).symm, ?_⟩
  rw [← printL_snoc, List.dropLast_concat_getLast h]
theorem parse_short {ps : List Ins} (hp : ∀ i ∈ ps, InsOk i) (hl : ps.length ≤ 300) (h0 : ps ≠ []) : parseL ((printL ps).take ((printL ps).length - 1)) = ⟨ps, 0, 0⟩ := by
  obtain ⟨qs, i, rfl, h⟩ := printL_last h0
  have h1 := printL_len (qs ++ [i])
  have ht : (printL (qs ++ [i])).take ((printL (qs ++ [i])).length - 1) = printL qs ++ lineL i := by
    rw [h, List.length_append, List.length_singleton, Nat.add_sub_cancel, List.take_left]
  rw [ht]
  have hlen : (printL qs ++ lineL i).length ≤ 1048576 := by
    rw [h, List.length_append] at h1
    have h2 : (qs ++ [i]).length ≤ 300 := hl
    have h3 : 2001 * (qs ++ [i]).length ≤ 2001 * 300 := Nat.mul_le_mul_left _ h2
    omega
  unfold parseL
  rw [if_neg (by omega), linesL_print, linesL_one _ (lineL_no10 i) (lineL_pos i)]
  have := parseLs_lines (qs ++ [i]) [] 1 [] hp (by omega)
  rw [List.map_append, List.append_nil] at this
  exact this
end Go.Proofs.YtckbcmoanadckaaDoor
