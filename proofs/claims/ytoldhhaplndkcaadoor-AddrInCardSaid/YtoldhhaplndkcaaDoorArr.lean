/- Small arrays of bytes in a block of their own; the texts of four numbers. -/
import Derived.Test.YtoldhhaplndkcaaDoorSplR
import Derived.Test.YtoldhhaplndkcaaDoorNum
import Derived.Laws.Rows
namespace Go.Proofs.YtoldhhaplndkcaaDoor
open Go.RowKit Go.Shelf
set_option linter.unusedVariables false
set_option linter.unusedSimpArgs false

abbrev c8 (n : Nat) : Value := .int .u8 (n : Int)
/-- A block that is an array of bytes. -/
def ArrAt (t : TypeId) (w : World) (b : Nat) (l : List Nat) : Prop := w.heap[b]? = some (.cells (l.map c8).toArray t (0, 0))
section
variable {t : TypeId} {w W : World} {b : Nat} {l : List Nat}
theorem ArrAt.lt (h : ArrAt t w b l) : b < w.heap.size := (Array.getElem?_eq_some_iff.1 h).1
theorem ArrAt.cell (h : ArrAt t w b l) {i x : Nat} (hi : l[i]? = some x) : w.cell? ⟨b, i, none⟩ = some (.int .u8 (x : Int)) := by
  rw [cell_of_row w b i _ t (0, 0) h, List.getElem?_toArray, List.getElem?_map, hi]
  rfl
theorem ArrAt.frozen (h : ArrAt t w b l) (i : Nat) : w.frozen? ⟨b, i, none⟩ = false := Lib.frozen_of_heap h i
theorem ArrAt.later (h : ArrAt t w b l) (hB : Below w.heap.size w W) : ArrAt t W b l := by
  unfold ArrAt
  rw [hB.block b h.lt]
  exact h
theorem ArrAt.new (t : TypeId) (w : World) (l : List Nat) : ArrAt t (w.alloc (.cells (l.map c8).toArray t)) w.heap.size l := heap_alloc_new w _
theorem ArrAt.old (h : ArrAt t w b l) (o : Obj) : ArrAt t (w.alloc o) b l := by
  unfold ArrAt
  rw [Below.heap_alloc _ _ _ h.lt]
  exact h
theorem ArrAt.set (h : ArrAt t w b l) {i : Nat} (v : Nat) (hi : i < l.length) : ArrAt t (w.setCell ⟨b, i, none⟩ (.int .u8 (v : Int))) b (l.set i v) := by
  have := heap_setCell_same w b i _ t (.int .u8 (v : Int)) h
  unfold ArrAt
  rw [this]
  congr 2
  rw [List.setIfInBounds_toArray, List.map_set]
theorem ArrAt.other (h : ArrAt t w b l) {c i : Nat} (v : Value) (hc : b ≠ c) : ArrAt t (w.setCell ⟨c, i, none⟩ v) b l := by
  unfold ArrAt
  rw [heap_setCell_other w ⟨c, i, none⟩ b v hc]
  exact h
end
def mapO {α β : Type} (f : α → Option β) : List α → Option (List β)
  | [] => some []
  | x :: xs => match f x with
    | none => none
    | some y => (mapO f xs).map (y :: ·)
theorem mapO_len {α β : Type} {f : α → Option β} : ∀ (l : List α) (r : List β), mapO f l = some r → r.length = l.length
  | [], r, h => by cases h; rfl
  | x :: xs, r, h => by
    unfold mapO at h
    split at h
    · cases h
    · cases hx : mapO f xs with
      | none => rw [hx] at h; cases h
      | some ys =>
        rw [hx] at h
        cases h
        rw [List.length_cons, List.length_cons, mapO_len xs ys hx]
theorem mapO_mem {α β : Type} {f : α → Option β} : ∀ (l : List α) (r : List β), mapO f l = some r → ∀ y ∈ r, ∃ x ∈ l, f x = some y
  | [], r, h, y, hy => by cases h; cases hy
  | x :: xs, r, h, y, hy => by
    unfold mapO at h
    split at h
    · cases h
    · rename_i z hz
      cases hx : mapO f xs with
      | none => rw [hx] at h; cases h
      | some ys =>
        rw [hx] at h
        cases h
        rcases List.mem_cons.1 hy with rfl | hy
        · exact ⟨x, List.mem_cons_self .., hz⟩
        · obtain ⟨a, ha, hb⟩ := mapO_mem xs ys hx y hy
          exact ⟨a, List.mem_cons_of_mem _ ha, hb⟩
theorem mapO_map {α β γ : Type} {f : β → Option γ} {g : α → β} {k : α → γ} : ∀ (l : List α), (∀ x ∈ l, f (g x) = some (k x)) → mapO f (l.map g) = some (l.map k)
  | [], _ => rfl
  | x :: xs, h => by
    show mapO f (g x :: xs.map g) = _
    unfold mapO
    rw [h x (List.mem_cons_self ..), mapO_map xs fun y hy => h y (List.mem_cons_of_mem _ hy)]
    rfl
/-- Four numbers with points between. -/
def p4L (l : List UInt8) : Option (List Nat) := if (splitL 46 l).length = 4 then mapO (numD 255) (splitL 46 l) else none
def print4L (a : List Nat) : List UInt8 := joinL 46 (a.map dcl)
theorem dcl_no46 (n : Nat) : (46 : UInt8) ∉ dcl n := fun h => absurd (dcl_digits n _ h) (by decide)
theorem p4_print {a : List Nat} (h4 : a.length = 4) (h : ∀ x ∈ a, x ≤ 255) : p4L (print4L a) = some a := by
  have hs : splitL 46 (print4L a) = a.map dcl := by
    refine splitL_join _ (fun e => ?_) (fun x hx => ?_)
    · have := congrArg List.length e
      rw [List.length_map, h4] at this
      cases this
    · obtain ⟨n, _, rfl⟩ := List.mem_map.1 hx
      exact dcl_no46 n
  unfold p4L
  rw [hs, List.length_map, if_pos h4]
  have := mapO_map (f := numD 255) (g := dcl) (k := fun n => n) a fun x hx => (numD_iff (by decide) _ _).2 ⟨h x hx, rfl⟩
  rw [this, List.map_id']
theorem p4_some {l : List UInt8} {a : List Nat} (h : p4L l = some a) : a.length = 4 ∧ ∀ x ∈ a, x ≤ 255 := by
  unfold p4L at h
  split at h
  · rename_i h4
    refine ⟨by rw [mapO_len _ _ h, h4], fun x hx => ?_⟩
    obtain ⟨y, _, hy⟩ := mapO_mem _ _ h x hx
    exact ((numD_iff (by decide) _ _).1 hy).1
  · cases h
/-- An array's value. -/
def agg4 (l : List Nat) : Value := .agg #[c8 (l.getD 0 0), c8 (l.getD 1 0), c8 (l.getD 2 0), c8 (l.getD 3 0)]
def err60 {α : Type} (o : Option α) : Nat := if o.isSome then 0 else 60
theorem four_of {l : List Nat} (h : l.length = 4) : ∃ a b c d, l = [a, b, c, d] := by
  match l, h with
  | [a, b, c, d], _ => exact ⟨a, b, c, d, rfl⟩
end Go.Proofs.YtoldhhaplndkcaaDoor
