/- LexBlanks: plain laws. -/
import Derived.Test.YtoknkgeojhekoaaDoorNumbersW
namespace Go.Proofs.YtoknkgeojhekoaaDoor
open Go.RowKit Go.Shelf
set_option linter.unusedVariables false
set_option linter.unusedSimpArgs false

/-- Tokens at other places. -/
def moved : List Tk → List Nat → List Tk
  | t :: ts, p :: ps => ⟨t.kind, (p : Int), t.text, t.n⟩ :: moved ts ps
  | _, _ => []
theorem moved_snoc : ∀ {ts : List Tk} {ps : List Nat} (t : Tk) (p : Nat), ps.length = ts.length → moved (ts ++ [t]) (ps ++ [p]) = moved ts ps ++ [⟨t.kind, (p : Int), t.text, t.n⟩]
  | [], [], t, p, _ => rfl
  | a :: ts, b :: ps, t, p, h => by
    show _ :: moved (ts ++ [t]) (ps ++ [p]) = _ :: (moved ts ps ++ _)
    rw [moved_snoc t p (by simpa using h)]
  | [], b :: ps, t, p, h => by simp at h
  | a :: ts, [], t, p, h => by simp at h
theorem moved_length : ∀ {ts : List Tk} {ps : List Nat}, ps.length = ts.length → (moved ts ps).length = ts.length
  | [], [], _ => rfl
  | a :: ts, b :: ps, h => by
    show (moved ts ps).length + 1 = ts.length + 1
    rw [moved_length (by simpa using h)]
  | [], b :: ps, h => by simp at h
  | a :: ts, [], h => by simp at h
theorem moved_get : ∀ (ts : List Tk) (ps : List Nat) (i : Nat) (t : Tk) (p : Nat), ts[i]? = some t → ps[i]? = some p → (moved ts ps)[i]? = some ⟨t.kind, (p : Int), t.text, t.n⟩ := by
  intro ts
  induction ts with
  | nil => intro ps i t p h1 h2; simp at h1
  | cons a ts ih =>
    intro ps i t p h1 h2
    cases ps with
    | nil => simp at h2
    | cons b ps =>
      cases i with
      | zero =>
        have h1 : a = t := by simpa using h1
        have h2 : b = p := by simpa using h2
        subst h1 h2
        rfl
      | succ i => exact ih ps i t p (by simpa using h1) (by simpa using h2)
/-- A source that is these tokens, with blanks between. -/
def Built (ts : List Tk) (ul : List UInt8) (pl : List Nat) : Prop := pl.length = ts.length ∧ ∀ m, Stops m → lexL (ul ++ m) 0 = preL (moved ts pl) (lexL m ul.length)
theorem built_nil : Built [] [] [] := ⟨rfl, fun m _ => by
  rw [List.nil_append]
  exact (preL_nil _).symm⟩
theorem lexL_blanks {bl : List UInt8} (h : ∀ x ∈ bl, blankB (x.toNat : Int) = true) : ∀ (m : List UInt8) (at0 : Nat), lexL (bl ++ m) at0 = lexL m (at0 + bl.length) := by
  induction bl with
  | nil => intro m at0; rfl
  | cons b bl ih =>
    intro m at0
    rw [List.cons_append, lexL_blank (h b (by simp)), ih (fun x hx => h x (by simp [hx])), List.length_cons]
    rw [show at0 + 1 + bl.length = at0 + (bl.length + 1) from by omega]
theorem stops_of {bl m : List UInt8} (h : ∀ x ∈ bl, blankB (x.toNat : Int) = true) (hne : 0 < bl.length) : Stops (bl ++ m) := by
  cases bl with
  | nil => cases hne
  | cons b bl => exact stops_blank (h b (by simp))
theorem built_step {ts : List Tk} {ul bl : List UInt8} {pl : List Nat} {t : Tk} (hB : Built ts ul pl) (ht : TkOk t) (h : ∀ x ∈ bl, blankB (x.toNat : Int) = true) (hne : 0 < bl.length) : Built (ts ++ [t]) (ul ++ bl ++ t.text.data.toList) (pl ++ [(ul ++ bl).length]) := by
  refine ⟨by simp [hB.1], fun m hm => ?_⟩
  rw [List.append_assoc, List.append_assoc, hB.2 _ (stops_of h hne), lexL_blanks h, lexL_one ht hm, moved_snoc _ _ hB.1, preL_append, List.length_append, List.length_append, List.length_append, size_list]
theorem built_end {ts : List Tk} {ul bl : List UInt8} {pl : List Nat} (e : Tk) (hB : Built ts ul pl) (he : e.kind = 0 ∧ e.text = ⟨#[]⟩ ∧ e.n = 0) (h : ∀ x ∈ bl, blankB (x.toNat : Int) = true) (hne : 0 < bl.length) : lexL (ul ++ bl) 0 = .ok (moved (ts ++ [e]) (pl ++ [(ul ++ bl).length])) := by
  have h1 := hB.2 bl (by have := stops_of (m := []) h hne; rwa [List.append_nil] at this)
  have h2 := lexL_blanks h [] ul.length
  rw [List.append_nil] at h2
  rw [h1, h2, lexL_nil, moved_snoc _ _ hB.1, he.1, he.2.1, he.2.2, List.length_append]
  rfl
theorem sum_take : ∀ (l : List Nat) (i : Nat), (l.take i).sum ≤ l.sum
  | [], i => by simp
  | a :: l, 0 => by simp
  | a :: l, i + 1 => by
    rw [List.take_succ_cons, List.sum_cons, List.sum_cons]
    have := sum_take l i
    omega
theorem sum_snoc (l : List Nat) (i : Nat) {x : Nat} (h : l[i]? = some x) : (l.take (i + 1)).sum = (l.take i).sum + x := by
  rw [take_succ_getD h, List.sum_append]
  simp
/-- What the blanks' loop has come to. -/
def BlkAt (us : List Tk) (e : Tk) (i : Nat) (ul : List UInt8) (pl : List Nat) : Prop := if i ≤ us.length then Built (us.take i) ul pl else lexL ul 0 = .ok (moved (us ++ [e]) pl) ∧ pl.length = us.length + 1
theorem blk_step {us : List Tk} {e t : Tk} {i : Nat} {ul bl : List UInt8} {pl : List Nat} (hB : BlkAt us e i ul pl) (hi : i ≤ us.length) (ht : (us ++ [e])[i]? = some t) (hok : ∀ t ∈ us, TkOk t) (he : e.kind = 0 ∧ e.text = ⟨#[]⟩ ∧ e.n = 0) (h : ∀ x ∈ bl, blankB (x.toNat : Int) = true) (hne : 0 < bl.length) : BlkAt us e (i + 1) (ul ++ bl ++ t.text.data.toList) (pl ++ [(ul ++ bl).length]) := by
  unfold BlkAt at hB ⊢
  rw [if_pos hi] at hB
  by_cases hlt : i < us.length
  · rw [List.getElem?_append_left hlt] at ht
    rw [if_pos (show i + 1 ≤ us.length from hlt), take_succ_getD ht]
    exact built_step hB (hok t (List.mem_of_getElem? ht)) h hne
  · have hie : i = us.length := by omega
    subst hie
    have ht : e = t := by simpa using ht
    subst ht
    rw [List.take_length] at hB
    rw [if_neg (by omega), he.2.1]
    have := built_end e hB he h hne
    refine ⟨?_, by rw [List.length_append, hB.1]; rfl⟩
    rw [show (⟨#[]⟩ : ByteArray).data.toList = [] from rfl, List.append_nil]
    exact this
end Go.Proofs.YtoknkgeojhekoaaDoor
