/- Plain laws: a line tells its instruction; what reads a line back. -/
import Derived.Test.YtckbcmoanadckaaDoorReadR
namespace Go.Proofs.YtckbcmoanadckaaDoor
set_option linter.unusedVariables false
set_option linter.unusedSimpArgs false

theorem isD_chd {d : Nat} (h : d < 10) : isD (chd d) = true ∧ (chd d).toNat = 48 + d := by
  have h0 : ∀ x : Fin 10, isD (chd x.val) = true ∧ (chd x.val).toNat = 48 + x.val := by decide
  exact h0 ⟨d, h⟩
/-- Digits' value, on from v. -/
def valD (v : Nat) (l : List UInt8) : Nat := l.foldl (fun v b => v * 10 + (b.toNat - 48)) v
theorem valD_append (v : Nat) (a b : List UInt8) : valD v (a ++ b) = valD (valD v a) b := List.foldl_append
theorem dcF_digits : ∀ (f n : Nat), ∀ b ∈ dcF f n, isD b = true
  | 0, _, b, hb => by cases hb
  | f + 1, n, b, hb => by
    unfold dcF at hb
    split at hb
    · rename_i h
      rw [List.mem_singleton] at hb
      rw [hb]
      exact (isD_chd h).1
    · rcases List.mem_append.1 hb with h | h
      · exact dcF_digits f _ b h
      · rw [List.mem_singleton] at h
        rw [h]
        exact (isD_chd (Nat.mod_lt _ (by decide))).1
theorem dcF_val : ∀ (f n : Nat), n < 10 ^ f → valD 0 (dcF f n) = n
  | 0, n, h => by
    have : n = 0 := by simpa using h
    rw [this]
    rfl
  | f + 1, n, h => by
    unfold dcF
    split
    · rename_i h1
      unfold valD
      simp only [List.foldl_cons, List.foldl_nil]
      rw [(isD_chd h1).2]
      omega
    · rw [valD_append, dcF_val f (n / 10) (by rw [Nat.pow_succ] at h; omega)]
      unfold valD
      simp only [List.foldl_cons, List.foldl_nil]
      rw [(isD_chd (Nat.mod_lt n (by decide))).2]
      omega
theorem dcF_len10 : ∀ (f n k : Nat), n < 10 ^ (k + 1) → (dcF f n).length ≤ k + 1
  | 0, _, _, _ => Nat.zero_le _
  | f + 1, n, k, h => by
    unfold dcF
    split
    · simp
    · rename_i h1
      cases k with
      | zero => simp at h; omega
      | succ k =>
        have := dcF_len10 f (n / 10) k (by rw [Nat.pow_succ] at h; omega)
        rw [List.length_append]
        simp
        omega
theorem dcF_pos (f n : Nat) : dcF (f + 1) n ≠ [] := by
  unfold dcF
  split <;> simp
theorem dcl_digits (n : Nat) : ∀ b ∈ dcl n, isD b = true := dcF_digits 20 n
theorem dcl_val {n : Nat} (h : n ≤ 4294967295) : valD 0 (dcl n) = n := dcF_val 20 n (by omega)
theorem dcl_pos (n : Nat) : dcl n ≠ [] := dcF_pos 19 n
theorem dcl_len10 {n : Nat} (h : n ≤ 4294967295) : (dcl n).length ≤ 10 := dcF_len10 20 n 9 (by omega)
/-- Does a text begin with no digit? -/
def noD : List UInt8 → Bool
  | [] => true
  | b :: _ => !isD b
theorem digits_split : ∀ {a b x y : List UInt8}, (∀ c ∈ a, isD c = true) → (∀ c ∈ b, isD c = true) → noD x = true → noD y = true → a ++ x = b ++ y → a = b ∧ x = y
  | [], [], x, y, _, _, _, _, h => ⟨rfl, h⟩
  | [], d :: b, x, y, _, hb, hx, _, h => by
    have h : x = d :: (b ++ y) := h
    rw [h] at hx
    have := hb d (List.mem_cons_self ..)
    simp [noD, this] at hx
  | c :: a, [], x, y, ha, _, _, hy, h => by
    have h : c :: (a ++ x) = y := h
    rw [← h] at hy
    have := ha c (List.mem_cons_self ..)
    simp [noD, this] at hy
  | c :: a, d :: b, x, y, ha, hb, hx, hy, h => by
    have h : c :: (a ++ x) = d :: (b ++ y) := h
    injection h with h1 h2
    obtain ⟨h3, h4⟩ := digits_split (fun e he => ha e (List.mem_cons_of_mem _ he)) (fun e he => hb e (List.mem_cons_of_mem _ he)) hx hy h2
    exact ⟨by rw [h1, h3], h4⟩
theorem digN_digits : ∀ (f : Nat) (l r : List UInt8) (v : Nat), (∀ c ∈ l, isD c = true) → l.length ≤ f → noD r = true → digN f (l ++ r) v = (l.length, valD v l)
  | 0, [], r, v, _, _, _ => by
    unfold digN
    rfl
  | f + 1, [], [], v, _, _, _ => by
    unfold digN
    rfl
  | f + 1, [], b :: r, v, _, _, h => by
    have h : isD b = false := by simpa [noD] using h
    show digN (f + 1) (b :: r) v = _
    unfold digN
    rw [h]
    rfl
  | f + 1, c :: l, r, v, hl, hf, h => by
    show digN (f + 1) (c :: (l ++ r)) v = _
    unfold digN
    rw [if_pos (hl c (List.mem_cons_self ..)), digN_digits f l r _ (fun e he => hl e (List.mem_cons_of_mem _ he)) (by simpa using hf) h]
    rfl
/-- A letter's number. -/
def fld (i : Ins) (b : UInt8) : Nat := if b = 67 then i.code else if b = 84 then i.jt else if b = 70 then i.jf else i.k
theorem fld_le {i : Ins} (h : InsOk i) (b : UInt8) : fld i b ≤ most b ∧ fld i b ≤ 4294967295 := by
  obtain ⟨h1, h2, h3, h4⟩ := h
  unfold fld most
  split
  · exact ⟨h1, by omega⟩
  · split
    · exact ⟨h2, by omega⟩
    · split
      · exact ⟨h3, by omega⟩
      · exact ⟨h4, h4⟩
theorem isF_cases {b : UInt8} (h : isF b = true) : b = 67 ∨ b = 84 ∨ b = 70 ∨ b = 75 := by
  unfold isF at h
  simp at h
  rcases h with ((h | h) | h) | h
  · exact .inl h
  · exact .inr (.inl h)
  · exact .inr (.inr (.inl h))
  · exact .inr (.inr (.inr h))
theorem fillC_let {b : UInt8} (i : Ins) (h : isF b = true) : fillC i b = dcl (fld i b) := by
  rcases isF_cases h with rfl | rfl | rfl | rfl <;> rfl
theorem fillC_not {b : UInt8} (i : Ins) (h : isF b = false) : fillC i b = [b] := by
  unfold isF at h
  simp at h
  unfold fillC
  rw [if_neg h.1.1.1, if_neg h.1.1.2, if_neg h.1.2, if_neg h.2]
theorem isF_noD {b : UInt8} (h : isF b = true) : isD b = false := by
  rcases isF_cases h with rfl | rfl | rfl | rfl <;> rfl
/-- A form's letters stand apart from digits and from one another. -/
def wfF : List UInt8 → Bool
  | [] => true
  | b :: f => (!isF b || (match f with | [] => true | c :: _ => !isF c && !isD c)) && wfF f
theorem wf_rest {b : UInt8} {f : List UInt8} (h : wfF (b :: f) = true) : wfF f = true := by
  unfold wfF at h
  simp only [Bool.and_eq_true] at h
  exact h.2
theorem wf_noD {b : UInt8} {f : List UInt8} (h : wfF (b :: f) = true) (hb : isF b = true) (i : Ins) : noD (fillL f i) = true := by
  unfold wfF at h
  simp only [Bool.and_eq_true, hb, Bool.not_true, Bool.false_or] at h
  cases f with
  | nil => rfl
  | cons c f =>
    have hc := h.1
    simp only [Bool.and_eq_true, Bool.not_eq_true'] at hc
    show noD (fillC i c ++ fillL f i) = true
    rw [fillC_not i hc.1]
    show (!isD c) = true
    rw [hc.2]
    rfl
theorem fill_fields : ∀ (f : List UInt8) (i j : Ins), InsOk i → InsOk j → wfF f = true → fillL f i = fillL f j → ∀ b ∈ f, isF b = true → fld i b = fld j b
  | [], _, _, _, _, _, _, b, hb, _ => by cases hb
  | c :: f, i, j, hi, hj, hw, h, b, hb, hF => by
    have h : fillC i c ++ fillL f i = fillC j c ++ fillL f j := h
    cases hc : isF c with
    | true =>
      rw [fillC_let i hc, fillC_let j hc] at h
      obtain ⟨h1, h2⟩ := digits_split (dcl_digits _) (dcl_digits _) (wf_noD hw hc i) (wf_noD hw hc j) h
      have h3 : fld i c = fld j c := by
        rw [← dcl_val (fld_le hi c).2, h1, dcl_val (fld_le hj c).2]
      rcases List.mem_cons.1 hb with rfl | hb
      · exact h3
      · exact fill_fields f i j hi hj (wf_rest hw) h2 b hb hF
    | false =>
      rw [fillC_not i hc, fillC_not j hc] at h
      rcases List.mem_cons.1 hb with rfl | hb
      · rw [hc] at hF; cases hF
      · exact fill_fields f i j hi hj (wf_rest hw) (List.cons.inj h).2 b hb hF
/-- A text with each run of digits as one sign. -/
def pat : Bool → List UInt8 → List UInt8
  | _, [] => []
  | p, b :: r => if isD b then (if p then pat true r else 0 :: pat true r) else b :: pat false r
theorem pat_digits : ∀ (l r : List UInt8) (p : Bool), (∀ c ∈ l, isD c = true) → l ≠ [] → pat p (l ++ r) = if p then pat true r else 0 :: pat true r
  | [], _, _, _, h => absurd rfl h
  | b :: l, r, p, hl, _ => by
    have hb := hl b (List.mem_cons_self ..)
    show pat p (b :: (l ++ r)) = _
    have hrest : pat true (l ++ r) = pat true r := by
      cases l with
      | nil => rfl
      | cons c l => rw [pat_digits (c :: l) r true (fun e he => hl e (List.mem_cons_of_mem _ he)) (by simp)]; rfl
    rw [pat.eq_def]
    simp only [hb, if_true, hrest]
def form0 (f : List UInt8) : List UInt8 := f.map fun b => if isF b then 48 else b
theorem pat_fill (i : Ins) : ∀ (f : List UInt8) (p : Bool), pat p (fillL f i) = pat p (form0 f)
  | [], p => rfl
  | b :: f, p => by
    show pat p (fillC i b ++ fillL f i) = pat p ((if isF b then 48 else b) :: form0 f)
    cases hb : isF b with
    | true =>
      rw [fillC_let i hb, pat_digits _ _ _ (dcl_digits _) (dcl_pos _), pat_fill i f true]
      have := pat_digits [48] (form0 f) p (by decide) (by simp)
      exact this.symm
    | false =>
      rw [fillC_not i hb]
      show pat p (b :: fillL f i) = pat p (b :: form0 f)
      rw [pat.eq_def, pat.eq_def]
      simp only [pat_fill i f true, pat_fill i f false]
def fpat (f : List UInt8) : List UInt8 := pat false (form0 f)
theorem forms_apart : (allL.all fun c => allL.all fun d => (fpat (formL c) != fpat (formL d) || c == d)) = true := by kernel_rfl
theorem forms_raw : (allL.all fun c => fpat (formL c) != fpat rawL) = true := by kernel_rfl
theorem forms_wf : (allL.all fun c => wfF (formL c)) = true := by kernel_rfl
theorem raw_wf : wfF rawL = true := by kernel_rfl
theorem known_mem {c : Nat} (h : knownB c = true) : c ∈ allL := by
  rw [all_known] at h
  simpa using h
theorem form_same {c d : Nat} (hc : knownB c = true) (hd : knownB d = true) (h : fpat (formL c) = fpat (formL d)) : c = d := by
  have h1 := List.all_eq_true.1 (List.all_eq_true.1 forms_apart c (known_mem hc)) d (known_mem hd)
  simpa [h] using h1
theorem form_raw {c : Nat} (hc : knownB c = true) (h : fpat (formL c) = fpat rawL) : False := by
  have h1 := List.all_eq_true.1 forms_raw c (known_mem hc)
  simp [h] at h1
theorem form_wf {c : Nat} (hc : knownB c = true) : wfF (formL c) = true := List.all_eq_true.1 forms_wf c (known_mem hc)
theorem formOf_cases (i : Ins) : (knownB i.code = true ∧ shownB (formL i.code) i = true ∧ formOf i = formL i.code) ∨ formOf i = rawL := by
  unfold formOf
  cases h1 : knownB i.code <;> cases h2 : shownB (formL i.code) i
  · exact .inr rfl
  · exact .inr rfl
  · exact .inr rfl
  · exact .inl ⟨rfl, rfl, rfl⟩
theorem shown_fields {f : List UInt8} {i : Ins} (h : shownB f i = true) : (75 ∈ f ∨ i.k = 0) ∧ (84 ∈ f ∨ i.jt = 0) ∧ (70 ∈ f ∨ i.jf = 0) := by
  unfold shownB at h
  simp at h
  exact ⟨h.1.1.symm, h.1.2.symm, h.2.symm⟩
theorem fields_same {f : List UInt8} {i j : Ins} (h : ∀ b ∈ f, isF b = true → fld i b = fld j b) (hi : shownB f i = true) (hj : shownB f j = true) (hc : i.code = j.code) : i = j := by
  obtain ⟨a1, a2, a3⟩ := shown_fields hi
  obtain ⟨b1, b2, b3⟩ := shown_fields hj
  have e1 : i.k = j.k := by
    by_cases m : (75 : UInt8) ∈ f
    · exact h 75 m rfl
    · rw [a1.resolve_left m, b1.resolve_left m]
  have e2 : i.jt = j.jt := by
    by_cases m : (84 : UInt8) ∈ f
    · exact h 84 m rfl
    · rw [a2.resolve_left m, b2.resolve_left m]
  have e3 : i.jf = j.jf := by
    by_cases m : (70 : UInt8) ∈ f
    · exact h 70 m rfl
    · rw [a3.resolve_left m, b3.resolve_left m]
  obtain ⟨a, b, c, d⟩ := i
  obtain ⟨a', b', c', d'⟩ := j
  simp only at hc e1 e2 e3
  rw [hc, e1, e2, e3]
/-- A LINE TELLS ITS INSTRUCTION. -/
theorem lineL_inj {i j : Ins} (hi : InsOk i) (hj : InsOk j) (h : lineL i = lineL j) : i = j := by
  have hp : fpat (formOf i) = fpat (formOf j) := by
    unfold fpat
    rw [← pat_fill i (formOf i) false, ← pat_fill j (formOf j) false]
    exact congrArg _ h
  unfold lineL at h
  rcases formOf_cases i with ⟨k1, s1, f1⟩ | f1 <;> rcases formOf_cases j with ⟨k2, s2, f2⟩ | f2
  · rw [f1, f2] at hp
    have hc := form_same k1 k2 hp
    rw [f1, f2, ← hc] at h
    exact fields_same (fill_fields _ i j hi hj (form_wf k1) h) s1 (by rw [hc]; exact s2) hc
  · rw [f1, f2] at hp
    exact (form_raw k1 hp).elim
  · rw [f1, f2] at hp
    exact (form_raw k2 hp.symm).elim
  · rw [f1, f2] at h
    have hf := fill_fields _ i j hi hj raw_wf h
    have e0 : i.code = j.code := hf 67 (by decide) rfl
    exact fields_same hf (by unfold shownB; simp [rawL]) (by unfold shownB; simp [rawL]) e0
/-- All of a form's numbers, set. -/
def setAll (i : Ins) : List UInt8 → Ins → Ins
  | [], a => a
  | b :: f, a => setAll i f (if isF b then setF a b (fld i b) else a)
theorem rdL_fill : ∀ (f : List UInt8) (i a : Ins), InsOk i → wfF f = true → rdL f (fillL f i) a = some (setAll i f a)
  | [], i, a, _, _ => by
    rw [rdL_end]
    rfl
  | b :: f, i, a, hi, hw => by
    show rdL (b :: f) (fillC i b ++ fillL f i) a = some (setAll i f (if isF b then setF a b (fld i b) else a))
    cases hb : isF b with
    | true =>
      have hl := fld_le hi b
      have hd := digN_digits 11 (dcl (fld i b)) (fillL f i) 0 (dcl_digits _) (by have := dcl_len10 hl.2; omega) (wf_noD hw hb i)
      rw [fillC_let i hb, rdL_num _ _ _ hb, hd, dcl_val hl.2]
      have hp : 0 < (dcl (fld i b)).length := List.length_pos_iff.2 (dcl_pos _)
      rw [if_pos (by simp [hp, hl.1]), List.drop_left, if_pos rfl]
      exact rdL_fill f i _ hi (wf_rest hw)
    | false =>
      rw [fillC_not i hb]
      show rdL (b :: f) (b :: fillL f i) a = _
      rw [rdL_chr _ _ _ _ hb, if_pos rfl, if_neg (by simp)]
      exact rdL_fill f i a hi (wf_rest hw)
theorem setAll_code : ∀ (f : List UInt8) (i a : Ins), InsOk i → (setAll i f a).code = if 67 ∈ f then i.code else a.code
  | [], i, a, _ => by simp [setAll]
  | b :: f, i, a, hi => by
    have h1 := hi.code
    show (setAll i f (if isF b then setF a b (fld i b) else a)).code = _
    rw [setAll_code f i _ hi]
    by_cases hm : (67 : UInt8) ∈ f
    · rw [if_pos hm, if_pos (List.mem_cons_of_mem _ hm)]
    · rw [if_neg hm]
      by_cases hb : b = 67
      · subst hb
        rw [if_pos (show isF 67 = true from rfl), if_pos (List.mem_cons_self ..)]
        show i.code % 65536 = i.code
        omega
      · have hn : ¬ (67 : UInt8) ∈ b :: f := fun h => (List.mem_cons.1 h).elim (fun e => hb e.symm) hm
        rw [if_neg hn]
        cases hF : isF b with
        | false => rfl
        | true =>
          rcases isF_cases hF with rfl | rfl | rfl | rfl
          · exact absurd rfl hb
          · rfl
          · rfl
          · rfl
theorem setAll_jt : ∀ (f : List UInt8) (i a : Ins), InsOk i → (setAll i f a).jt = if 84 ∈ f then i.jt else a.jt
  | [], i, a, _ => by simp [setAll]
  | b :: f, i, a, hi => by
    have h1 := hi.jt
    show (setAll i f (if isF b then setF a b (fld i b) else a)).jt = _
    rw [setAll_jt f i _ hi]
    by_cases hm : (84 : UInt8) ∈ f
    · rw [if_pos hm, if_pos (List.mem_cons_of_mem _ hm)]
    · rw [if_neg hm]
      by_cases hb : b = 84
      · subst hb
        rw [if_pos (show isF 84 = true from rfl), if_pos (List.mem_cons_self ..)]
        show i.jt % 256 = i.jt
        omega
      · have hn : ¬ (84 : UInt8) ∈ b :: f := fun h => (List.mem_cons.1 h).elim (fun e => hb e.symm) hm
        rw [if_neg hn]
        cases hF : isF b with
        | false => rfl
        | true =>
          rcases isF_cases hF with rfl | rfl | rfl | rfl
          · rfl
          · exact absurd rfl hb
          · rfl
          · rfl
theorem setAll_jf : ∀ (f : List UInt8) (i a : Ins), InsOk i → (setAll i f a).jf = if 70 ∈ f then i.jf else a.jf
  | [], i, a, _ => by simp [setAll]
  | b :: f, i, a, hi => by
    have h1 := hi.jf
    show (setAll i f (if isF b then setF a b (fld i b) else a)).jf = _
    rw [setAll_jf f i _ hi]
    by_cases hm : (70 : UInt8) ∈ f
    · rw [if_pos hm, if_pos (List.mem_cons_of_mem _ hm)]
    · rw [if_neg hm]
      by_cases hb : b = 70
      · subst hb
        rw [if_pos (show isF 70 = true from rfl), if_pos (List.mem_cons_self ..)]
        show i.jf % 256 = i.jf
        omega
      · have hn : ¬ (70 : UInt8) ∈ b :: f := fun h => (List.mem_cons.1 h).elim (fun e => hb e.symm) hm
        rw [if_neg hn]
        cases hF : isF b with
        | false => rfl
        | true =>
          rcases isF_cases hF with rfl | rfl | rfl | rfl
          · rfl
          · rfl
          · exact absurd rfl hb
          · rfl
theorem setAll_k : ∀ (f : List UInt8) (i a : Ins), InsOk i → (setAll i f a).k = if 75 ∈ f then i.k else a.k
  | [], i, a, _ => by simp [setAll]
  | b :: f, i, a, hi => by
    have h1 := hi.k
    show (setAll i f (if isF b then setF a b (fld i b) else a)).k = _
    rw [setAll_k f i _ hi]
    by_cases hm : (75 : UInt8) ∈ f
    · rw [if_pos hm, if_pos (List.mem_cons_of_mem _ hm)]
    · rw [if_neg hm]
      by_cases hb : b = 75
      · subst hb
        rw [if_pos (show isF 75 = true from rfl), if_pos (List.mem_cons_self ..)]
        show i.k % 4294967296 = i.k
        omega
      · have hn : ¬ (75 : UInt8) ∈ b :: f := fun h => (List.mem_cons.1 h).elim (fun e => hb e.symm) hm
        rw [if_neg hn]
        cases hF : isF b with
        | false => rfl
        | true =>
          rcases isF_cases hF with rfl | rfl | rfl | rfl
          · rfl
          · rfl
          · rfl
          · exact absurd rfl hb
theorem ins_ext {i j : Ins} (h1 : i.code = j.code) (h2 : i.jt = j.jt) (h3 : i.jf = j.jf) (h4 : i.k = j.k) : i = j := by
  obtain ⟨a, b, c, d⟩ := i
  obtain ⟨a', b', c', d'⟩ := j
  simp only at h1 h2 h3 h4
  rw [h1, h2, h3, h4]
theorem rdL_own (i : Ins) (hi : InsOk i) : ∃ r ∈ rowsN 256, rdL r.1 (lineL i) ⟨r.2, 0, 0, 0⟩ = some i := by
  rcases formOf_cases i with ⟨k1, s1, f1⟩ | f1
  · refine ⟨(formL i.code, i.code), ?_, ?_⟩
    · unfold rowsN
      refine List.mem_cons_of_mem _ (List.mem_map.2 ⟨i.code, List.mem_filter.2 ⟨List.mem_range.2 ?_, k1⟩, rfl⟩)
      have h := known_mem k1
      have h2 : (allL.all fun c => decide (c < 256)) = true := by kernel_rfl
      simpa using List.all_eq_true.1 h2 _ h
    · unfold lineL
      rw [f1, rdL_fill _ i _ hi (form_wf k1)]
      obtain ⟨a1, a2, a3⟩ := shown_fields s1
      congr 1
      apply ins_ext
      · rw [setAll_code _ _ _ hi]
        split <;> rfl
      · rw [setAll_jt _ _ _ hi]
        split
        · rfl
        · rename_i h; exact (a2.resolve_left h).symm
      · rw [setAll_jf _ _ _ hi]
        split
        · rfl
        · rename_i h; exact (a3.resolve_left h).symm
      · rw [setAll_k _ _ _ hi]
        split
        · rfl
        · rename_i h; exact (a1.resolve_left h).symm
  · refine ⟨(rawL, 0), by unfold rowsN; exact List.mem_cons_self .., ?_⟩
    unfold lineL
    rw [f1, rdL_fill _ i _ hi raw_wf]
    congr 1
    apply ins_ext
    · rw [setAll_code _ _ _ hi, if_pos (by decide)]
    · rw [setAll_jt _ _ _ hi, if_pos (by decide)]
    · rw [setAll_jf _ _ _ hi, if_pos (by decide)]
    · rw [setAll_k _ _ _ hi, if_pos (by decide)]
theorem readL_ok : ∀ (rs : List (List UInt8 × Nat)) (l : List UInt8) (x : Ins), (∀ r ∈ rs, r.2 ≤ 65535) → readL rs l = some x → InsOk x ∧ lineL x = l
  | [], l, x, _, h => by cases h
  | (f, c) :: rs, l, x, hr, h => by
    have hc := hr (f, c) (List.mem_cons_self ..)
    cases hd : rdL f l ⟨c, 0, 0, 0⟩ with
    | none =>
      rw [readL_none rs hd] at h
      exact readL_ok rs l x (fun r h => hr r (List.mem_cons_of_mem _ h)) h
    | some y =>
      rw [readL_some rs hd] at h
      split at h
      · rename_i he
        cases h
        exact ⟨rdL_ok _ _ _ _ ⟨hc, Nat.zero_le _, Nat.zero_le _, Nat.zero_le _⟩ hd, he⟩
      · exact readL_ok rs l x (fun r h => hr r (List.mem_cons_of_mem _ h)) h
theorem readL_found : ∀ (rs : List (List UInt8 × Nat)) (l : List UInt8) (i : Ins), (∃ r ∈ rs, rdL r.1 l ⟨r.2, 0, 0, 0⟩ = some i) → lineL i = l → (readL rs l).isSome = true
  | [], l, i, ⟨r, h, _⟩, _ => by cases h
  | (f, c) :: rs, l, i, ⟨r, hm, h⟩, hl => by
    cases hd : rdL f l ⟨c, 0, 0, 0⟩ with
    | none =>
      rw [readL_none rs hd]
      rcases List.mem_cons.1 hm with rfl | hm
      · rw [hd] at h; cases h
      · exact readL_found rs l i ⟨r, hm, h⟩ hl
    | some y =>
      rw [readL_some rs hd]
      split
      · rfl
      · rename_i he
        rcases List.mem_cons.1 hm with rfl | hm
        · rw [hd] at h
          cases h
          exact absurd hl he
        · exact readL_found rs l i ⟨r, hm, h⟩ hl
theorem readL_all {l : List UInt8} {x : Ins} (h : readL (rowsN 256) l = some x) : InsOk x ∧ lineL x = l := readL_ok _ _ _ (fun r h => (rows_code h).1) h
/-- A LINE READS AS ITS INSTRUCTION. -/
theorem readL_line (i : Ins) (hi : InsOk i) : readL (rowsN 256) (lineL i) = some i := by
  have h := readL_found (rowsN 256) (lineL i) i (rdL_own i hi) rfl
  obtain ⟨x, hx⟩ := Option.isSome_iff_exists.1 h
  obtain ⟨h1, h2⟩ := readL_all hx
  rw [hx, lineL_inj h1 hi h2]
/-- Reading and showing are one another's way back. -/
theorem readL_iff (l : List UInt8) (x : Ins) : readL (rowsN 256) l = some x ↔ InsOk x ∧ lineL x = l :=
  ⟨readL_all, fun ⟨h1, h2⟩ => by rw [← h2]; exact readL_line x h1⟩
end Go.Proofs.YtckbcmoanadckaaDoor
