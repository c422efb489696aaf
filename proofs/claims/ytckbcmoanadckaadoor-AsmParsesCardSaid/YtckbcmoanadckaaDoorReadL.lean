/- Plain laws: the document's reading is the compiler's. -/
import Derived.Test.YtckbcmoanadckaaDoorNumsR
import Derived.Test.YtckbcmoanadckaaDoorInj
import Derived.Test.YtckbcmoanadckaaDoorLineRc
namespace Go.Proofs.YtckbcmoanadckaaDoor
open Go.RowKit
set_option linter.unusedVariables false
set_option linter.unusedSimpArgs false

theorem valD_ge : ∀ (l : List UInt8) (v : Nat), v ≤ valD v l
  | [], v => Nat.le_refl _
  | b :: l, v => by
    have := valD_ge l (v * 10 + (b.toNat - 48))
    show v ≤ valD (v * 10 + (b.toNat - 48)) l
    omega
theorem numF_val : ∀ (l : List UInt8) (v : Nat), valD v l ≤ maxU → numF l v = some (valD v l)
  | [], v, _ => rfl
  | b :: l, v, h => by
    have h1 : valD (v * 10 + (b.toNat - 48)) l ≤ maxU := h
    have := valD_ge l (v * 10 + (b.toNat - 48))
    unfold numF
    rw [if_neg (by omega)]
    exact numF_val l _ h1
theorem dcF_head : ∀ (f n : Nat), 1 ≤ n → n < 10 ^ f → ∃ b r, dcF f n = b :: r ∧ b ≠ 48
  | 0, n, h1, h => by simp at h; omega
  | f + 1, n, h1, h => by
    unfold dcF
    split
    · rename_i h2
      refine ⟨chd n, [], rfl, ?_⟩
      have h0 : ∀ x : Fin 10, 1 ≤ x.val → chd x.val ≠ 48 := by decide
      exact h0 ⟨n, h2⟩ h1
    · obtain ⟨b, r, e, hb⟩ := dcF_head f (n / 10) (by omega) (by rw [Nat.pow_succ] at h; omega)
      exact ⟨b, r ++ [chd (n % 10)], by rw [e]; rfl, hb⟩
theorem numR_dcl {n : Nat} (h : n ≤ 4294967295) : numR (dcl n) = some n := by
  unfold numR
  have hp : (dcl n).length ≠ 0 := fun e => dcl_pos n (List.length_eq_zero_iff.1 e)
  rw [if_neg]
  · rw [numF_val _ _ (by rw [dcl_val h]; exact h), dcl_val h]
  · rintro (e | ⟨e1, e2⟩)
    · exact hp e
    · rcases Nat.eq_zero_or_pos n with rfl | h0
      · have : (dcl 0).length = 1 := by decide
        omega
      · obtain ⟨b, r, e, hb⟩ := dcF_head 20 n h0 (by omega)
        unfold dcl at e2
        rw [e] at e2
        exact hb (Option.some.inj e2)
theorem runD_split : ∀ (l r : List UInt8), (∀ b ∈ l, isD b = true) → noD r = true → runD (l ++ r) = l
  | [], [], _, _ => rfl
  | [], c :: r, _, h => by
    have h : isD c = false := by simpa [noD] using h
    show List.takeWhile isD (c :: r) = []
    rw [List.takeWhile_cons, if_neg (by simp [h])]
  | b :: l, r, hl, h => by
    show List.takeWhile isD (b :: (l ++ r)) = _
    rw [List.takeWhile_cons, if_pos (hl b (List.mem_cons_self ..))]
    have := runD_split l r (fun c hc => hl c (List.mem_cons_of_mem _ hc)) h
    unfold runD at this
    rw [this]
theorem numsL_drop {r : List UInt8} (h : noD r = true) : numsL (r.drop 1) = numsL r := by
  cases r with
  | nil => rfl
  | cons b r =>
    have h : isD b = false := by simpa [noD] using h
    rw [numsL_not r h]
    rfl
theorem numsL_dcl {n : Nat} (r : List UInt8) (hn : n ≤ 4294967295) (h : noD r = true) : numsL (dcl n ++ r) = n :: numsL r := by
  obtain ⟨b, l, e⟩ : ∃ b l, dcl n = b :: l := by
    cases hd : dcl n with
    | nil => exact absurd hd (dcl_pos n)
    | cons b l => exact ⟨b, l, rfl⟩
  have hrun : runD (b :: (l ++ r)) = dcl n := by
    have := runD_split (dcl n) r (dcl_digits n) h
    rw [e] at this
    rw [e]
    exact this
  have hb : isD b = true := dcl_digits n b (by rw [e]; exact List.mem_cons_self ..)
  have h1 : dcl n ++ r = b :: (l ++ r) := by rw [e]; rfl
  rw [h1, numsL_run (l ++ r) hb (v := n) (by rw [hrun]; exact numR_dcl hn), hrun, ← h1]
  have h2 : (dcl n ++ r).drop ((dcl n).length + 1) = r.drop 1 := by
    rw [← List.drop_drop, List.drop_left]
  rw [h2, numsL_drop h]
theorem numsF_le : ∀ (f : Nat) (l : List UInt8), ∀ v ∈ numsF f l, v ≤ maxU
  | 0, _, v, h => by cases h
  | f + 1, [], v, h => by cases h
  | f + 1, b :: r, v, h => by
    unfold numsF at h
    split at h
    · split at h
      · cases h
      · rename_i x hx
        rcases List.mem_cons.1 h with rfl | h
        · exact numR_le hx
        · exact numsF_le f _ v h
    · exact numsF_le f r v h
/-- A form's numbers, in their order. -/
def fnums (f : List UInt8) (i : Ins) : List Nat := f.flatMap fun b => if isF b then [fld i b] else []
theorem nums_fill : ∀ (f : List UInt8) (i : Ins), InsOk i → wfF f = true → (f.all fun b => !isD b) = true → numsL (fillL f i) = fnums f i
  | [], i, _, _, _ => rfl
  | b :: f, i, hi, hw, hd => by
    simp only [List.all_cons, Bool.and_eq_true, Bool.not_eq_true'] at hd
    have ih := nums_fill f i hi (wf_rest hw) (by simpa using hd.2)
    show numsL (fillC i b ++ fillL f i) = (if isF b then [fld i b] else []) ++ fnums f i
    cases hb : isF b with
    | true =>
      rw [fillC_let i hb, numsL_dcl _ (fld_le hi b).2 (wf_noD hw hb i), ih]
      rfl
    | false =>
      rw [fillC_not i hb]
      show numsL (b :: fillL f i) = _
      rw [numsL_not _ hd.1, ih]
      rfl
/-- The document's candidate for a code. -/
def cand (ns : List Nat) (c : Nat) : Option Ins :=
  let a0 := if c = 177 then 1 else 0
  let k := if ukB c then ns.getD a0 0 else 0
  let a1 := if ukB c then a0 + 1 else a0
  if rjL.contains c then (if 255 < ns.getD a1 0 ∨ 255 < ns.getD (a1 + 1) 0 then none else some ⟨c, ns.getD a1 0, ns.getD (a1 + 1) 0, k⟩) else some ⟨c, 0, 0, k⟩
def candL (ns : List Nat) (l : List UInt8) : List Nat → Option Ins
  | [] => none
  | c :: cs => match cand ns c with
    | none => candL ns l cs
    | some x => if lineL x = l then some x else candL ns l cs
def rawC (ns : List Nat) : Ins := ⟨ns.getD 0 0, ns.getD 1 0, ns.getD 2 0, ns.getD 3 0⟩
def rawB (ns : List Nat) : Bool := decide (ns.length = 4) && decide (ns.getD 0 0 < 65536) && decide (ns.getD 1 0 < 256) && decide (ns.getD 2 0 < 256)
/-- The document's reading. -/
def rreadL (l : List UInt8) : Option Ins := if rawB (numsL l) = true ∧ lineL (rawC (numsL l)) = l then some (rawC (numsL l)) else candL (numsL l) l (codesN 256)
theorem getD_le (l : List UInt8) (k : Nat) : (numsL l).getD k 0 ≤ maxU := by
  rw [List.getD_eq_getElem?_getD]
  cases h : (numsL l)[k]? with
  | none => exact Nat.zero_le _
  | some v => exact numsF_le _ _ v (List.mem_of_getElem? h)
theorem cand_ok {l : List UInt8} {c : Nat} {x : Ins} (hc : c ≤ 65535) (h : cand (numsL l) c = some x) : InsOk x := by
  have hk : ∀ k, (numsL l).getD k 0 ≤ 4294967295 := fun k => getD_le l k
  unfold cand at h
  simp only at h
  obtain ⟨a0, ha0⟩ : ∃ a : Nat, (if c = 177 then 1 else 0) = a := ⟨_, rfl⟩
  rw [ha0] at h
  obtain ⟨a1, ha1⟩ : ∃ a : Nat, (if ukB c = true then a0 + 1 else a0) = a := ⟨_, rfl⟩
  rw [ha1] at h
  obtain ⟨k, hkk⟩ : ∃ a : Nat, (if ukB c = true then (numsL l).getD a0 0 else 0) = a := ⟨_, rfl⟩
  rw [hkk] at h
  have hk9 : k ≤ 4294967295 := by
    rw [← hkk]
    split
    · exact hk _
    · omega
  by_cases hj : rjL.contains c = true
  · rw [if_pos hj] at h
    by_cases hr : 255 < (numsL l).getD a1 0 ∨ 255 < (numsL l).getD (a1 + 1) 0
    · rw [if_pos hr] at h
      cases h
    · rw [if_neg hr] at h
      have h := Option.some.inj h
      subst h
      exact ⟨hc, by show (numsL l).getD a1 0 ≤ 255; omega, by show (numsL l).getD (a1 + 1) 0 ≤ 255; omega, hk9⟩
  · rw [if_neg hj] at h
    have h := Option.some.inj h
    subst h
    exact ⟨hc, Nat.zero_le _, Nat.zero_le _, hk9⟩
theorem candL_ok : ∀ (cs : List Nat) (l : List UInt8) (x : Ins), (∀ c ∈ cs, c ≤ 65535) → candL (numsL l) l cs = some x → InsOk x ∧ lineL x = l
  | [], l, x, _, h => by cases h
  | c :: cs, l, x, hc, h => by
    have ih := candL_ok cs l x (fun d hd => hc d (List.mem_cons_of_mem _ hd))
    rw [candL.eq_def] at h
    simp only at h
    split at h
    · exact ih h
    · rename_i y hy
      split at h
      · rename_i he
        cases h
        exact ⟨cand_ok (hc c (List.mem_cons_self ..)) hy, he⟩
      · exact ih h
theorem candL_found : ∀ (cs : List Nat) (ns : List Nat) (l : List UInt8) (c : Nat) (x : Ins), c ∈ cs → cand ns c = some x → lineL x = l → (candL ns l cs).isSome = true
  | [], _, _, _, _, h, _, _ => by cases h
  | d :: cs, ns, l, c, x, hm, hx, hl => by
    rw [candL.eq_def]
    simp only
    split
    · rename_i hd
      rcases List.mem_cons.1 hm with rfl | hm
      · rw [hx] at hd; cases hd
      · exact candL_found cs ns l c x hm hx hl
    · rename_i y hd
      split
      · rfl
      · rename_i he
        rcases List.mem_cons.1 hm with rfl | hm
        · rw [hx] at hd
          cases hd
          exact absurd hl he
        · exact candL_found cs ns l c x hm hx hl
theorem fnums_eq (f : List UInt8) (i : Ins) : fnums f i = (f.filter isF).map (fld i) := by
  unfold fnums
  induction f with
  | nil => rfl
  | cons b f ih =>
    rw [List.flatMap_cons, ih, List.filter_cons]
    cases h : isF b <;> simp
theorem forms_letters : (allL.all fun c => c == 177 || ((formL c).all (fun b => !isD b) && (formL c).filter isF == (if ukB c then [75] else []) ++ (if rjL.contains c then [84, 70] else []))) = true := by kernel_rfl
theorem nums_known {i : Ins} (hi : InsOk i) (hk : knownB i.code = true) (hc : i.code ≠ 177) : numsL (fillL (formL i.code) i) = (if ukB i.code then [i.k] else []) ++ (if rjL.contains i.code then [i.jt, i.jf] else []) := by
  have h := List.all_eq_true.1 forms_letters _ (known_mem hk)
  have h1 : (i.code == 177) = false := by simp [hc]
  rw [h1, Bool.false_or, Bool.and_eq_true] at h
  rw [nums_fill _ i hi (form_wf hk) h.1, fnums_eq, beq_iff_eq.1 h.2, List.map_append]
  cases ukB i.code <;> cases rjL.contains i.code <;> rfl
theorem nums_177 {i : Ins} (hi : InsOk i) : numsL (fillL (formL 177) i) = [4, i.k, 15] := by
  have e : fillL (formL 177) i = 108 :: 100 :: 120 :: 98 :: 32 :: (dcl 4 ++ (42 :: 40 :: 91 :: (dcl i.k ++ (93 :: 38 :: (dcl 15 ++ (41 :: [])))))) := by
    have h4 : dcl 4 = [52] := by decide
    have h15 : dcl 15 = [49, 53] := by decide
    rw [h4, h15]
    simp [fillL, formL, fillC]
  rw [e, numsL_not _ (by decide), numsL_not _ (by decide), numsL_not _ (by decide), numsL_not _ (by decide), numsL_not _ (by decide), numsL_dcl _ (by decide) rfl,
    numsL_not _ (by decide), numsL_not _ (by decide), numsL_not _ (by decide), numsL_dcl _ hi.k rfl, numsL_not _ (by decide), numsL_not _ (by decide), numsL_dcl _ (by decide) rfl, numsL_not _ (by decide), numsL_nil]
theorem cand_own {i : Ins} (hi : InsOk i) (hk : knownB i.code = true) (hs : shownB (formL i.code) i = true) : cand (numsL (fillL (formL i.code) i)) i.code = some i := by
  obtain ⟨f1, f2, f3⟩ := uses_form i.code hk
  obtain ⟨a1, a2, a3⟩ := shown_fields hs
  have b1 : ukB i.code = false → i.k = 0 := fun h => a1.resolve_left (by rw [← List.contains_iff_mem, ← f1, h]; simp)
  have b2 : rjL.contains i.code = false → i.jt = 0 := fun h => a2.resolve_left (by rw [← List.contains_iff_mem, ← f2, h]; simp)
  have b3 : rjL.contains i.code = false → i.jf = 0 := fun h => a3.resolve_left (by rw [← List.contains_iff_mem, ← f3, h]; simp)
  have hjt := hi.jt
  have hjf := hi.jf
  by_cases hc : i.code = 177
  · have u : ukB 177 = true := by kernel_rfl
    have j : rjL.contains 177 = false := by decide
    rw [hc] at b2 b3
    have e2 := b2 j
    have e3 := b3 j
    rw [hc, nums_177 hi]
    unfold cand
    simp only [u, j, if_true, Bool.false_eq_true, if_false]
    congr 1
    exact ins_ext hc.symm e2.symm e3.symm rfl
  · rw [nums_known hi hk hc]
    unfold cand
    simp only [hc, if_false]
    cases hu : ukB i.code <;> cases hj : rjL.contains i.code
    · simp only [hu, hj, Bool.false_eq_true, if_false]
      congr 1
      exact ins_ext rfl (b2 hj).symm (b3 hj).symm (b1 hu).symm
    · simp only [Bool.false_eq_true, if_false, if_true, List.nil_append]
      rw [if_neg (by show ¬ (255 < i.jt ∨ 255 < i.jf); omega)]
      congr 1
      exact ins_ext rfl rfl rfl (b1 hu).symm
    · simp only [Bool.false_eq_true, if_false, if_true, List.append_nil]
      congr 1
      exact ins_ext rfl (b2 hj).symm (b3 hj).symm rfl
    · simp only [if_true, List.cons_append, List.nil_append]
      rw [if_neg (by show ¬ (255 < i.jt ∨ 255 < i.jf); omega)]
      rfl
theorem rread_ok {l : List UInt8} {x : Ins} (h : rreadL l = some x) : InsOk x ∧ lineL x = l := by
  unfold rreadL at h
  split at h
  · rename_i hh
    obtain ⟨h1, h2⟩ := hh
    cases h
    refine ⟨?_, h2⟩
    unfold rawB at h1
    simp only [Bool.and_eq_true, decide_eq_true_eq] at h1
    exact ⟨by show (numsL l).getD 0 0 ≤ _; omega, by show (numsL l).getD 1 0 ≤ _; omega, by show (numsL l).getD 2 0 ≤ _; omega, getD_le l 3⟩
  · refine candL_ok _ l x (fun c hc => ?_) h
    unfold codesN at hc
    have := List.mem_range.1 (List.mem_filter.1 hc).1
    omega
theorem rread_line (i : Ins) (hi : InsOk i) : rreadL (lineL i) = some i := by
  have hsome : (rreadL (lineL i)).isSome = true := by
    unfold rreadL
    split
    · rfl
    · rename_i hn
      rcases formOf_cases i with ⟨k1, s1, f1⟩ | f1
      · have hl : lineL i = fillL (formL i.code) i := by unfold lineL; rw [f1]
        refine candL_found _ _ _ i.code i ?_ (by rw [hl]; exact cand_own hi k1 s1) rfl
        unfold codesN
        refine List.mem_filter.2 ⟨List.mem_range.2 ?_, k1⟩
        have h2 : (allL.all fun c => decide (c < 256)) = true := by kernel_rfl
        simpa using List.all_eq_true.1 h2 _ (known_mem k1)
      · exfalso
        apply hn
        have hl : lineL i = fillL rawL i := by unfold lineL; rw [f1]
        have hnums : numsL (lineL i) = [i.code, i.jt, i.jf, i.k] := by
          rw [hl, nums_fill _ i hi raw_wf (by decide), fnums_eq]
          rfl
        have h1 := hi.code
        have h2 := hi.jt
        have h3 := hi.jf
        rw [hnums]
        have hr : rawC [i.code, i.jt, i.jf, i.k] = i := rfl
        rw [hr]
        refine ⟨?_, rfl⟩
        unfold rawB
        simp only [Bool.and_eq_true, decide_eq_true_eq]
        exact ⟨⟨⟨rfl, by show i.code < _; omega⟩, by show i.jt < _; omega⟩, by show i.jf < _; omega⟩
  obtain ⟨x, hx⟩ := Option.isSome_iff_exists.1 hsome
  obtain ⟨h1, h2⟩ := rread_ok hx
  rw [hx, lineL_inj h1 hi h2]
/-- THE TWO READINGS ARE ONE. -/
theorem rread_eq (l : List UInt8) : rreadL l = readL (rowsN 256) l := by
  cases h : readL (rowsN 256) l with
  | some x =>
    obtain ⟨h1, h2⟩ := readL_all h
    rw [← h2]
    exact rread_line x h1
  | none =>
    cases h2 : rreadL l with
    | none => rfl
    | some x =>
      obtain ⟨h3, h4⟩ := rread_ok h2
      rw [← h4, readL_line x h3] at h
      cases h
end Go.Proofs.YtckbcmoanadckaaDoor
