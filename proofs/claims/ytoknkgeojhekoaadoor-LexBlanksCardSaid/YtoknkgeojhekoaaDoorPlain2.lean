/- Plain laws of Lex: lists of tokens. -/
import Derived.Test.YtoknkgeojhekoaaDoorPlain
namespace Go.Proofs.YtoknkgeojhekoaaDoor
open Go.RowKit Go.Shelf
set_option linter.unusedVariables false
set_option linter.unusedSimpArgs false

/-- A token whose text is that token. -/
structure TkOk (t : Tk) : Prop where
  ne : t.text.data.toList ≠ []
  err : (tokR t.text.data.toList).err = 0
  kind : (tokR t.text.data.toList).kind = t.kind
  len : (tokR t.text.data.toList).len = t.text.data.toList.length
  n : (tokR t.text.data.toList).n = t.n
  hd : blankB (hdI t.text.data.toList) = false
abbrev endT (at0 : Nat) : Tk := ⟨0, at0, ⟨#[]⟩, 0⟩
theorem tkAt_ok {b : UInt8} {l : List UInt8} {at0 : Nat} (h : blankB (b.toNat : Int) = false) (he : (tokR (b :: l)).err = 0) : TkOk (tkAt (b :: l) at0) := by
  have hl := tokR_len he
  have ht : (tkAt (b :: l) at0).text.data.toList = (b :: l).take (tokR (b :: l)).len := by unfold tkAt; simp
  have hn : (b :: l) ≠ [] := by simp
  have hk := tokR_take hn he
  have hh : hdI ((b :: l).take (tokR (b :: l)).len) = (b.toNat : Int) := hdI_take hl.1
  refine ⟨?_, ?_, ?_, ?_, ?_, ?_⟩
  · rw [ht]
    intro e
    have := congrArg List.length e
    rw [List.length_take, List.length_cons, List.length_nil] at this
    omega
  · rw [ht, hk]; exact he
  · rw [ht, hk]; rfl
  · rw [ht, hk, List.length_take, List.length_cons]; omega
  · rw [ht, hk]; rfl
  · rw [ht, hh]; exact h
theorem preL_ok {a : List Tk} {r : LexR} {ts : List Tk} (h : preL a r = .ok ts) : ∃ us, r = .ok us ∧ ts = a ++ us := by
  cases r with
  | error e => cases h
  | ok us => exact ⟨us, rfl, (Except.ok.inj h).symm⟩
theorem preL_err {a : List Tk} {r : LexR} {p : Nat × Int} (h : preL a r = .error p) : r = .error p := by
  cases r with
  | error e => exact h
  | ok us => cases h
/-- By the length of what is left. -/
theorem lex_ind {P : List UInt8 → Nat → Prop} (h0 : ∀ at0, P [] at0) (h1 : ∀ b l at0, blankB (b.toNat : Int) = true → P l (at0 + 1) → P (b :: l) at0)
    (h2 : ∀ b l at0, blankB (b.toNat : Int) = false → (tokR (b :: l)).err ≠ 0 → P (b :: l) at0)
    (h3 : ∀ b l at0, blankB (b.toNat : Int) = false → (tokR (b :: l)).err = 0 → P ((b :: l).drop (tokR (b :: l)).len) (at0 + (tokR (b :: l)).len) → P (b :: l) at0) : ∀ (n : Nat) (l : List UInt8) (at0 : Nat), l.length ≤ n → P l at0
  | _, [], at0, _ => h0 at0
  | 0, b :: l, at0, h => by simp at h
  | n + 1, b :: l, at0, h => by
    rw [List.length_cons] at h
    cases hb : blankB (b.toNat : Int) with
    | true => exact h1 b l at0 hb (lex_ind h0 h1 h2 h3 n l _ (by omega))
    | false =>
      by_cases he : (tokR (b :: l)).err = 0
      · have hl := tokR_len he
        exact h3 b l at0 hb he (lex_ind h0 h1 h2 h3 n _ _ (by rw [List.length_drop, List.length_cons]; omega))
      · exact h2 b l at0 hb he
theorem lexL_ok {l : List UInt8} {at0 : Nat} {ts : List Tk} : lexL l at0 = .ok ts → ∃ us, ts = us ++ [endT (at0 + l.length)] ∧ (∀ t ∈ us, TkOk t) ∧ (∀ t ∈ us, t.text.size ≤ l.length) ∧ us.length ≤ l.length ∧ (us.map fun t => t.text.size).sum ≤ l.length := by
  refine lex_ind (P := fun l at0 => ∀ ts, lexL l at0 = .ok ts → ∃ us, ts = us ++ [endT (at0 + l.length)] ∧ (∀ t ∈ us, TkOk t) ∧ (∀ t ∈ us, t.text.size ≤ l.length) ∧ us.length ≤ l.length ∧ (us.map fun t => t.text.size).sum ≤ l.length) ?_ ?_ ?_ ?_ l.length l at0 (Nat.le_refl _) ts
  · intro at0 ts h
    rw [lexL_nil] at h
    exact ⟨[], (Except.ok.inj h).symm, (fun t h => by cases h), (fun t h => by cases h), Nat.le_refl _, Nat.le_refl _⟩
  · intro b l at0 hb ih ts h
    rw [lexL_blank hb] at h
    obtain ⟨us, e, h1, h2, h3, h4⟩ := ih ts h
    rw [List.length_cons]
    exact ⟨us, by rw [e, show at0 + 1 + l.length = at0 + (l.length + 1) from by omega], h1, fun t ht => Nat.le_succ_of_le (h2 t ht), by omega, by omega⟩
  · intro b l at0 hb he ts h
    rw [lexL_bad hb he] at h
    cases h
  · intro b l at0 hb he ih ts h
    rw [lexL_tok hb he] at h
    obtain ⟨vs, hv, rfl⟩ := preL_ok h
    obtain ⟨us, e, h1, h2, h3, h4⟩ := ih vs hv
    have hl := tokR_len he
    have hsz : (tkAt (b :: l) at0).text.size = (tokR (b :: l)).len := by
      unfold tkAt
      show ((b :: l).take _).toArray.size = _
      rw [List.size_toArray, List.length_take, List.length_cons]
      omega
    refine ⟨tkAt (b :: l) at0 :: us, ?_, ?_, ?_, ?_, ?_⟩
    · rw [e, List.length_drop, List.length_cons]
      rw [show at0 + (tokR (b :: l)).len + (l.length + 1 - (tokR (b :: l)).len) = at0 + (l.length + 1) from by omega]
      rfl
    · intro t ht
      rcases List.mem_cons.1 ht with rfl | ht
      · exact tkAt_ok hb he
      · exact h1 t ht
    · intro t ht
      rcases List.mem_cons.1 ht with rfl | ht
      · rw [hsz]; exact hl.2
      · have := h2 t ht
        rw [List.length_drop] at this
        omega
    · rw [List.length_cons]
      rw [List.length_drop, List.length_cons] at h3
      rw [List.length_cons]
      omega
    · rw [List.map_cons, List.sum_cons, hsz]
      rw [List.length_drop] at h4
      rw [List.length_cons] at h4 ⊢
      omega
theorem lexL_one {t : Tk} (h : TkOk t) {m : List UInt8} (hm : Stops m) (at0 : Nat) : lexL (t.text.data.toList ++ m) at0 = preL [⟨t.kind, at0, t.text, t.n⟩] (lexL m (at0 + t.text.size)) := by
  have hb := tokR_behind h.ne hm
  obtain ⟨b, l, e⟩ : ∃ b l, t.text.data.toList = b :: l := by
    cases e : t.text.data.toList with
    | nil => exact absurd e h.ne
    | cons b l => exact ⟨b, l, rfl⟩
  have e3 : (⟨(b :: l).toArray⟩ : ByteArray) = t.text := by rw [← e]
  have E3 := Lib.hid e3
  clear e3
  have hd := h.hd
  have hlen := h.len
  have herr := h.err
  have hkind := h.kind
  have hn := h.n
  have hsz := size_list t.text
  rw [← hb] at hlen herr hkind hn
  rw [e] at hb hd hlen herr hkind hn hsz
  rw [e, List.cons_append] at *
  rw [lexL_tok (b := b) hd herr]
  have e1 : tkAt (b :: (l ++ m)) at0 = ⟨t.kind, at0, t.text, t.n⟩ := by
    unfold tkAt
    rw [hkind, hn, hlen]
    congr 1
    rw [← List.cons_append, List.take_left]
    exact E3.out
  rw [e1, hlen]
  rw [← List.cons_append, List.drop_left, hsz]
theorem lexS_one {t : Tk} (h : TkOk t) (hs : t.text.size ≤ 65536) : lexS t.text = .ok [⟨t.kind, 0, t.text, t.n⟩, endT t.text.size] := by
  unfold lexS
  rw [if_neg (by omega)]
  have := lexL_one h stops_nil 0
  rw [List.append_nil] at this
  rw [this, lexL_nil, Nat.zero_add]
  rfl
/-- Behind a blank it goes on. -/
theorem lexL_more {c : UInt8} (hc : blankB (c.toNat : Int) = true) (m : List UInt8) (l : List UInt8) (at0 : Nat) :
    (∀ p, lexL l at0 = .error p → lexL (l ++ c :: m) at0 = .error p) ∧ (∀ us e, lexL l at0 = .ok (us ++ [e]) → lexL (l ++ c :: m) at0 = preL us (lexL m (at0 + l.length + 1))) := by
  refine lex_ind (P := fun l at0 => (∀ p, lexL l at0 = .error p → lexL (l ++ c :: m) at0 = .error p) ∧ (∀ us e, lexL l at0 = .ok (us ++ [e]) → lexL (l ++ c :: m) at0 = preL us (lexL m (at0 + l.length + 1)))) ?_ ?_ ?_ ?_ l.length l at0 (Nat.le_refl _)
  · intro at0
    rw [lexL_nil, List.nil_append, lexL_blank hc]
    refine ⟨fun p h => (by cases h), fun us e h => ?_⟩
    have h := Except.ok.inj h
    cases us with
    | nil => rw [preL_nil]; rfl
    | cons u us => simp at h
  · intro b l at0 hb ih
    rw [lexL_blank hb, List.cons_append, lexL_blank hb, List.length_cons]
    rw [show at0 + (l.length + 1) + 1 = at0 + 1 + l.length + 1 from by omega]
    exact ih
  · intro b l at0 hb he
    have hk := tokR_behind (l := b :: l) (by simp) (stops_blank (m := m) hc)
    rw [List.cons_append] at hk
    rw [lexL_bad hb he, List.cons_append, lexL_bad hb (by rw [hk]; exact he), hk]
    exact ⟨fun p h => h, fun us e h => by cases h⟩
  · intro b l at0 hb he ih
    have hk := tokR_behind (l := b :: l) (by simp) (stops_blank (m := m) hc)
    have hl := tokR_len he
    rw [List.cons_append] at hk
    rw [lexL_tok hb he, List.cons_append, lexL_tok hb (by rw [hk]; exact he), hk]
    have e1 : tkAt (b :: (l ++ c :: m)) at0 = tkAt (b :: l) at0 := by
      unfold tkAt
      rw [hk, ← List.cons_append, take_behind (by rw [List.length_cons]; exact hl.2)]
    have e2 : (b :: (l ++ c :: m)).drop (tokR (b :: l)).len = (b :: l).drop (tokR (b :: l)).len ++ c :: m := by
      rw [← List.cons_append, List.drop_append_of_le_length (by rw [List.length_cons]; exact hl.2)]
    rw [e1, e2]
    refine ⟨fun p h => ?_, fun us e h => ?_⟩
    · rw [ih.1 p (preL_err h)]
      rfl
    · obtain ⟨vs, hv, hu⟩ := preL_ok h
      obtain ⟨ws, hw, -⟩ := lexL_ok hv
      rw [hw] at hv hu
      have h3 := ih.2 ws _ hv
      rw [h3]
      have hu : us ++ [e] = (tkAt (b :: l) at0 :: ws) ++ [endT (at0 + (tokR (b :: l)).len + ((b :: l).drop (tokR (b :: l)).len).length)] := hu
      have hus := List.append_inj_left' hu rfl
      rw [hus]
      rw [show at0 + (tokR (b :: l)).len + ((b :: l).drop (tokR (b :: l)).len).length + 1 = at0 + (b :: l).length + 1 from by rw [List.length_drop, List.length_cons]; omega]
      rw [← preL_append]
      rfl
/-- The place moves with the source. -/
theorem lexL_shift (l : List UInt8) (at0 : Nat) : (∀ a e, lexL l at0 = .error (a, e) → ∃ b, a = at0 + b ∧ ∀ at1, lexL l at1 = .error (at1 + b, e)) ∧ (∀ ts, lexL l at0 = .ok ts → ∀ at1, ∃ us, lexL l at1 = .ok us) := by
  refine lex_ind (P := fun l at0 => (∀ a e, lexL l at0 = .error (a, e) → ∃ b, a = at0 + b ∧ ∀ at1, lexL l at1 = .error (at1 + b, e)) ∧ (∀ ts, lexL l at0 = .ok ts → ∀ at1, ∃ us, lexL l at1 = .ok us)) ?_ ?_ ?_ ?_ l.length l at0 (Nat.le_refl _)
  · intro at0
    exact ⟨fun a e h => (by cases h), fun ts _ at1 => ⟨_, lexL_nil at1⟩⟩
  · intro b l at0 hb ih
    refine ⟨fun a e h => ?_, fun ts h at1 => ?_⟩
    · rw [lexL_blank hb] at h
      obtain ⟨k, h1, h2⟩ := ih.1 a e h
      exact ⟨k + 1, by omega, fun at1 => by rw [lexL_blank hb, h2, show at1 + 1 + k = at1 + (k + 1) from by omega]⟩
    · rw [lexL_blank hb] at h
      obtain ⟨us, hu⟩ := ih.2 ts h (at1 + 1)
      exact ⟨us, by rw [lexL_blank hb, hu]⟩
  · intro b l at0 hb he
    refine ⟨fun a e h => ?_, fun ts h at1 => ?_⟩
    · rw [lexL_bad hb he] at h
      cases h
      exact ⟨0, rfl, fun at1 => by rw [lexL_bad hb he]; rfl⟩
    · rw [lexL_bad hb he] at h
      cases h
  · intro b l at0 hb he ih
    refine ⟨fun a e h => ?_, fun ts h at1 => ?_⟩
    · rw [lexL_tok hb he] at h
      obtain ⟨k, h1, h2⟩ := ih.1 a e (preL_err h)
      exact ⟨(tokR (b :: l)).len + k, by omega, fun at1 => by rw [lexL_tok hb he, h2, show at1 + (tokR (b :: l)).len + k = at1 + ((tokR (b :: l)).len + k) from by omega]; rfl⟩
    · rw [lexL_tok hb he] at h
      obtain ⟨vs, hv, _⟩ := preL_ok h
      obtain ⟨us, hu⟩ := ih.2 vs hv (at1 + (tokR (b :: l)).len)
      exact ⟨_, by rw [lexL_tok hb he, hu]; rfl⟩
theorem lexL_err {l : List UInt8} {at0 : Nat} {p : Nat × Int} : lexL l at0 = .error p → p.2 ≠ 0 := by
  refine lex_ind (P := fun l at0 => ∀ p, lexL l at0 = .error p → p.2 ≠ 0) ?_ ?_ ?_ ?_ l.length l at0 (Nat.le_refl _) p
  · intro at0 p h
    rw [lexL_nil] at h
    cases h
  · intro b l at0 hb ih p h
    rw [lexL_blank hb] at h
    exact ih p h
  · intro b l at0 hb he p h
    rw [lexL_bad hb he] at h
    cases h
    exact he
  · intro b l at0 hb he ih p h
    rw [lexL_tok hb he] at h
    exact ih p (preL_err h)
theorem lexL_err_le {l : List UInt8} {at0 : Nat} {p : Nat × Int} : lexL l at0 = .error p → p.1 ≤ at0 + l.length := by
  refine lex_ind (P := fun l at0 => ∀ p, lexL l at0 = .error p → p.1 ≤ at0 + l.length) ?_ ?_ ?_ ?_ l.length l at0 (Nat.le_refl _) p
  · intro at0 p h
    rw [lexL_nil] at h
    cases h
  · intro b l at0 hb ih p h
    rw [lexL_blank hb] at h
    have := ih p h
    rw [List.length_cons]
    omega
  · intro b l at0 hb he p h
    rw [lexL_bad hb he] at h
    cases h
    exact Nat.le_add_right _ _
  · intro b l at0 hb he ih p h
    rw [lexL_tok hb he] at h
    have hl := tokR_len he
    have := ih p (preL_err h)
    rw [List.length_drop, List.length_cons] at this
    rw [List.length_cons]
    omega
theorem lexS_err_le {s : ByteArray} {p : Nat × Int} (h : lexS s = .error p) (hs : s.size ≤ 65536) : p.1 ≤ s.size := by
  unfold lexS at h
  rw [if_neg (by omega)] at h
  have := lexL_err_le h
  rw [size_list] at this
  omega
theorem lexS_err {s : ByteArray} {p : Nat × Int} (h : lexS s = .error p) : p.2 ≠ 0 := by
  unfold lexS at h
  split at h
  · cases h
    decide
  · exact lexL_err h
end Go.Proofs.YtoknkgeojhekoaaDoor
