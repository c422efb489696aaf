/- Rows of small structs in memory, whatever the struct: plain lemmas. -/
import Derived.Test.YtoldhhaplndkcaaDoorNumT
import Derived.WalkKit
import Derived.ProofKit
import Derived.Lib.Hide
import Derived.Below
import Derived.Deep.AppendLies
import Derived.Deep.DeepAppendRoom
import Derived.Deep.MidRow
import Derived.Maps.Range
import Derived.ArgAppend
import Derived.Shelf.Abstract
namespace Go.Proofs.YtoldhhaplndkcaaDoor
open Go.RowKit Go.Shelf
set_option linter.unusedVariables false
set_option linter.unusedSimpArgs false

/-- How a struct's fields lie: k cells each. -/
structure EncOk {α : Type} (k : Nat) (enc : α → List Value) : Prop where
  len : ∀ a, (enc a).length = k
  one : ∀ a, ∀ v ∈ enc a, v.oneCell' = true
  pos : 0 < k
section
variable {α : Type} {k : Nat} {enc : α → List Value}
def flatG (enc : α → List Value) (xs : List α) : List Value := xs.flatMap enc
theorem flatG_length (E : EncOk k enc) (xs : List α) : (flatG enc xs).length = xs.length * k := by
  unfold flatG
  induction xs with
  | nil => simp
  | cons n xs ih => rw [List.flatMap_cons, List.length_append, ih, List.length_cons, E.len, Nat.add_mul]; omega
theorem flatG_append (a b : List α) : flatG enc (a ++ b) = flatG enc a ++ flatG enc b := List.flatMap_append
theorem flatG_one (E : EncOk k enc) (xs : List α) : ∀ v ∈ flatG enc xs, v.oneCell' = true := by
  intro v hv
  obtain ⟨n, _, h⟩ := List.mem_flatMap.1 hv
  exact E.one n v h
theorem flatG_get (E : EncOk k enc) {xs : List α} {i j : Nat} {x : α} {u : Value} (hi : xs[i]? = some x) (hu : (enc x)[j]? = some u) : (flatG enc xs)[i * k + j]? = some u := by
  have hj : j < k := by
    have := (List.getElem?_eq_some_iff.1 hu).1
    rwa [E.len] at this
  induction xs generalizing i with
  | nil => cases hi
  | cons n ns ih =>
    show (enc n ++ flatG enc ns)[i * k + j]? = some u
    cases i with
    | zero =>
      rw [List.getElem?_append_left (by rw [E.len]; omega)]
      have : n = x := by simpa using hi
      rw [this]
      simpa using hu
    | succ i =>
      have e0 : (i + 1) * k = i * k + k := Nat.succ_mul i k
      rw [List.getElem?_append_right (by rw [E.len]; omega)]
      have e : (i + 1) * k + j - (enc n).length = i * k + j := by rw [E.len]; omega
      rw [e]
      exact ih (by simpa using hi)
/-- A slice of structs: they lie in a row. -/
def Rs (enc : α → List Value) (w : World) (A : Option Addr) (xs : List α) : Prop := 0 < xs.length → ∃ b o, A = some ⟨b, o, none⟩ ∧ ∀ j u, (flatG enc xs)[j]? = some u → w.cell? ⟨b, o + j, none⟩ = some u
theorem Rs.nil {w : World} {A : Option Addr} : Rs enc w A [] := fun h => by cases h
theorem Rs.cell (E : EncOk k enc) {w : World} {b o : Nat} {xs : List α} (h : Rs enc w (some ⟨b, o, none⟩) xs) {i j : Nat} {x : α} {u : Value} (hi : xs[i]? = some x) (hu : (enc x)[j]? = some u) : w.cell? ⟨b, o + i * k + j, none⟩ = some u := by
  obtain ⟨b', o', e, hc⟩ := h (by have := (List.getElem?_eq_some_iff.1 hi).1; omega)
  cases e
  have := hc (i * k + j) u (flatG_get E hi hu)
  rwa [show o + i * k + j = o + (i * k + j) from by omega]
theorem Rs.blk {w : World} {A : Option Addr} {xs : List α} (E : EncOk k enc) (h : Rs enc w A xs) {b o : Nat} (hA : A = some ⟨b, o, none⟩) (hp : 0 < xs.length) : b < w.heap.size := by
  obtain ⟨b', o', e, hc⟩ := h hp
  rw [hA] at e
  cases e
  have hl : 0 < (flatG enc xs).length := by rw [flatG_length E]; exact Nat.mul_pos hp E.pos
  exact World.block_lt_of_cell? w _ (hc 0 _ (List.getElem?_eq_getElem hl))
theorem Rs.later {w W : World} {A : Option Addr} {xs : List α} (h : Rs enc w A xs) (hb : Below w.heap.size w W) : Rs enc W A xs := by
  intro hp
  obtain ⟨b, o, e, hn⟩ := h hp
  exact ⟨b, o, e, fun j u hu => (hb.cell (p := ⟨b, o + j, none⟩) (World.block_lt_of_cell? w _ (hn j u hu))).trans (hn j u hu)⟩
theorem Rs.take {w : World} {A : Option Addr} {l1 l2 : List α} (h : Rs enc w A (l1 ++ l2)) : Rs enc w A l1 := by
  intro hp
  obtain ⟨b, o, e, hn⟩ := h (by simp; omega)
  refine ⟨b, o, e, fun j u hu => hn j u ?_⟩
  rw [flatG_append, List.getElem?_append_left (List.getElem?_eq_some_iff.1 hu).1]
  exact hu
theorem Rs.takeN {w : World} {A : Option Addr} {l : List α} (n : Nat) (h : Rs enc w A l) : Rs enc w A (l.take n) := Rs.take (l2 := l.drop n) (by rw [List.take_append_drop]; exact h)
theorem Rs.sub (E : EncOk k enc) {w : World} {b o : Nat} {l1 l2 : List α} (h : Rs enc w (some ⟨b, o, none⟩) (l1 ++ l2)) : Rs enc w (some ⟨b, o + l1.length * k, none⟩) l2 := by
  intro hp
  obtain ⟨b', o', e, hn⟩ := h (by simp; omega)
  cases e
  refine ⟨b, o + l1.length * k, rfl, fun j u hu => ?_⟩
  have := hn (l1.length * k + j) u (by
    rw [flatG_append, List.getElem?_append_right (by rw [flatG_length E]; omega), flatG_length E]
    rw [show l1.length * k + j - l1.length * k = j from by omega]
    exact hu)
  rwa [show o + l1.length * k + j = o + (l1.length * k + j) from by omega]
theorem rs_news {w : World} {b : Nat} {l : List α} {t : TypeId} {fr : Nat × Nat} (h : w.heap[b]? = some (.cells (flatG enc l).toArray t fr)) : ∀ j u, (flatG enc l)[j]? = some u → w.cell? ((⟨b, 0, none⟩ : Addr).add j) = some u := fun j u hu => by
  rw [add_plain, Nat.zero_add, cell_of_row w b j _ t fr h]
  simpa using hu
theorem rs_new {w : World} {l : List α} {t : TypeId} : Rs enc (w.alloc (.cells (flatG enc l).toArray t)) (some ⟨w.heap.size, 0, none⟩) l := fun _ =>
  ⟨w.heap.size, 0, rfl, fun j u hu => by
    have := rs_news (heap_alloc_new w (.cells (flatG enc l).toArray t)) j u hu
    rwa [add_plain] at this⟩
theorem own_later {w W : World} {base sz n : Nat} {e : TypeId} {v : Value} {xs : List Value} (h : w.ownsRow base e sz v n xs) (hb : ∀ b, v.ownBlock = some b → W.heap[b]? = w.heap[b]?) : W.ownsRow base e sz v n xs := by
  refine ⟨h.1, ?_⟩
  rcases h.2 with h | ⟨g, cap, cur, rfl, h1, h2, h3⟩
  · exact .inl h
  · exact .inr ⟨g, cap, cur, rfl, h1, (hb g rfl).trans h2, h3⟩
theorem own_lt {w : World} {base sz n : Nat} {e : TypeId} {v : Value} {xs : List Value} (h : w.ownsRow base e sz v n xs) {b : Nat} (hb : v.ownBlock = some b) : base ≤ b ∧ b < w.heap.size := by
  rcases h.2 with ⟨rfl, h⟩ | ⟨g, cap, cur, rfl, h1, h2, h3⟩
  · cases hb
  · cases hb
    exact ⟨h1, (Array.getElem?_eq_some_iff.1 h2).1⟩
theorem own_below {w W : World} {base sz n : Nat} {e : TypeId} {v : Value} {xs : List Value} (h : w.ownsRow base e sz v n xs) (hb : Below w.heap.size w W) : W.ownsRow base e sz v n xs :=
  own_later h fun b e => hb.block b (own_lt h e).2
theorem own_mono {w : World} {base base2 sz n : Nat} {e : TypeId} {v : Value} {xs : List Value} (h : w.ownsRow base e sz v n xs) (hb : base2 ≤ base) : w.ownsRow base2 e sz v n xs := by
  refine ⟨h.1, ?_⟩
  rcases h.2 with h | ⟨g, cap, cur, rfl, h1, h2⟩
  · exact .inl h
  · exact .inr ⟨g, cap, cur, rfl, by omega, h2⟩
theorem own_cap {w : World} {base sz n m cap : Nat} {A : Option Addr} {e : TypeId} {xs : List Value} (h : w.ownsRow base e sz (.slice A m cap) n xs) : n ≤ cap := by
  rcases h.2 with ⟨h, h0⟩ | ⟨g, c, cur, h1, h2, h3, h4, _⟩
  · cases h; omega
  · cases h1; exact h4
theorem own_nil (w : World) (base sz : Nat) (e : TypeId) : w.ownsRow base e sz (.slice none 0 0) 0 [] := ⟨by simp, .inl ⟨rfl, rfl⟩⟩
/-- A row of one's own. -/
def OwnG (k : Nat) (enc : α → List Value) (t : TypeId) (w : World) (base : Nat) (v : Value) (xs : List α) : Prop := w.ownsRow base t k v xs.length (flatG enc xs)
theorem OwnG.rs (E : EncOk k enc) {t : TypeId} {w : World} {base : Nat} {v : Value} {xs : List α} (h : OwnG k enc t w base v xs) : ∃ A c, v = .slice A xs.length c ∧ Rs enc w A xs := by
  have h0 := h
  rcases h.2 with ⟨rfl, e⟩ | ⟨g, cap, cur, rfl, hb, hh, _⟩
  · exact ⟨none, 0, by rw [e], fun hp => by omega⟩
  · refine ⟨_, _, rfl, fun hp => ⟨g, 0, rfl, fun j u hu => ?_⟩⟩
    have := World.ownsRow.cells h0 (g := g) rfl j _ hu
    rwa [add_plain] at this
theorem OwnG.is (E : EncOk k enc) {t : TypeId} {w : World} {base g n c : Nat} {xs : List α} (h : OwnG k enc t w base (.slice (some ⟨g, 0, none⟩) n c) xs) : Rs enc w (some ⟨g, 0, none⟩) xs := by
  obtain ⟨A', c', e, hN⟩ := h.rs E
  cases e
  exact hN
theorem OwnG.form {t : TypeId} {w : World} {base : Nat} {v : Value} {xs : List α} (h : OwnG k enc t w base v xs) (hp : 0 < xs.length) : ∃ g c, v = .slice (some ⟨g, 0, none⟩) xs.length c ∧ base ≤ g ∧ g < w.heap.size ∧ xs.length ≤ c := by
  rcases h.2 with ⟨rfl, e⟩ | ⟨g, cap, cur, rfl, hb, hh, hc, _⟩
  · omega
  · exact ⟨g, cap, rfl, hb, (Array.getElem?_eq_some_iff.1 hh).1, hc⟩
theorem own_new (E : EncOk k enc) (t : TypeId) (w : World) (l : List α) (hl : l.length ≤ 1000) : OwnG k enc t (w.alloc (.cells (flatG enc l).toArray t)) w.heap.size (.slice (some ⟨w.heap.size, 0, none⟩) l.length l.length) l :=
  ⟨flatG_length E l, .inr ⟨w.heap.size, l.length, (flatG enc l).toArray, rfl, Nat.le_refl _, heap_alloc_new w _, Nat.le_refl _, by simp only [maxLen]; omega, by simp [flatG_length E], by
    rw [← flatG_length E]
    simp⟩⟩
/-- A block of the call's own with room for n structs. -/
def Room (k : Nat) (t : TypeId) (w : World) (g n : Nat) : Prop := ∃ cur, w.heap[g]? = some (.cells cur t (0, 0)) ∧ n * k ≤ cur.size
theorem Room.there {t : TypeId} {w : World} {g n i : Nat} (h : Room k t w g n) (hi : i < n) : w.there g (i * k) k := by
  obtain ⟨cur, h1, h2⟩ := h
  have e : (i + 1) * k ≤ n * k := Nat.mul_le_mul_right k hi
  rw [Nat.succ_mul] at e
  intro j hj
  refine ⟨?_, frozen_of_row w g _ _ _ h1⟩
  rw [cell_of_row w g _ _ _ _ h1, Array.getElem?_eq_getElem (by omega)]
  rfl
theorem Room.lt {t : TypeId} {w : World} {g n : Nat} (h : Room k t w g n) : g < w.heap.size := by
  obtain ⟨cur, h1, h2⟩ := h
  exact (Array.getElem?_eq_some_iff.1 h1).1
theorem Room.of_own {t : TypeId} {w : World} {base n m c g : Nat} {xs : List Value} (h : w.ownsRow base t k (.slice (some ⟨g, 0, none⟩) m c) n xs) : Room k t w g n := by
  rcases h.2 with ⟨e, _⟩ | ⟨g2, cap, cur, e, h1, h2, h3, h4, h5, _⟩
  · cases e
  · cases e
    exact ⟨cur, h2, by rw [h5]; exact Nat.mul_le_mul_right k h3⟩
theorem Room.mono {t : TypeId} {w : World} {g n m : Nat} (h : Room k t w g n) (hm : m ≤ n) : Room k t w g m := by
  obtain ⟨cur, h1, h2⟩ := h
  exact ⟨cur, h1, Nat.le_trans (Nat.mul_le_mul_right k hm) h2⟩
theorem room_setCell {t : TypeId} {w : World} {g n : Nat} (h : Room k t w g n) (b o : Nat) (v : Value) : Room k t (w.setCell ⟨b, o, none⟩ v) g n := by
  obtain ⟨cur, h1, h2⟩ := h
  by_cases hb : g = b
  · subst hb
    exact ⟨_, heap_setCell_same w g o cur _ v h1, by simpa using h2⟩
  · exact ⟨cur, by rw [heap_setCell_other w ⟨b, o, none⟩ g v hb]; exact h1, h2⟩
theorem room_setCells {t : TypeId} {g n b : Nat} : ∀ (cs : List Value) (o : Nat) (w : World), Room k t w g n → Room k t (w.setCells b o cs) g n
  | [], _, _, h => h
  | v :: cs, o, w, h => room_setCells cs (o + 1) _ (room_setCell h b o v)
theorem grown_setCell (w : World) (b o : Nat) (v : Value) : w.grownBy (w.setCell ⟨b, o, none⟩ v) (some b) :=
  ⟨rfl, rfl, rfl, by simp, fun i hi hne => heap_setCell_other w _ i v (fun e => hne (by rw [e]))⟩
theorem grown_setCells {b : Nat} : ∀ (cs : List Value) (o : Nat) (w : World), w.grownBy (w.setCells b o cs) (some b)
  | [], _, w => ⟨rfl, rfl, rfl, Nat.le_refl _, fun _ _ _ => rfl⟩
  | v :: cs, o, w => World.grownBy.trans (grown_setCell w b o v) (grown_setCells cs (o + 1) _)
theorem own_cells {t : TypeId} {w : World} {base n c : Nat} {A : Option Addr} {xs : List Value} (h : w.ownsRow base t k (.slice A n c) n xs) : ∀ b, A = some b → ∀ j u, xs[j]? = some u → w.cell? (b.add j) = some u := by
  intro b e j u hu
  subst e
  rcases h.2 with ⟨e, _⟩ | ⟨g, cap, cur, e, _⟩
  · cases e
  · cases e
    exact World.ownsRow.cells h (g := g) rfl j u hu
theorem take_succ_getD {xs : List α} {i : Nat} {x : α} (h : xs[i]? = some x) : xs.take (i + 1) = xs.take i ++ [x] := by
  rw [List.take_add_one, h]
  rfl
end
end Go.Proofs.YtoldhhaplndkcaaDoor
