/- strings.Builder's writers: what else they leave alone. -/
import Derived.Test.YtoldhhaplndkcaaDoorBuild
import Derived.Test.YtoldhhaplndkcaaDoorRowG
import Derived.RangeFuncOwn
import Derived.RangeFuncBox
import Derived.RegionTactic
import Derived.ChangeAlike
import Derived.Lib.UnsafeStr
namespace Go.Proofs.YtoldhhaplndkcaaDoor
open Go.RowKit Go.Shelf Go.Sort
set_option linter.unusedVariables false
set_option linter.unusedSimpArgs false

/-- What is no cells stays, and each block of cells but b and the bytes' rows. -/
def KeepT (b : Nat) (w w' : World) : Prop := KeepsOthers w w' ∧ ∀ j cs t, w.heap[j]? = some (.cells cs t (0, 0)) → j ≠ b → t ≠ 5 → w'.heap[j]? = w.heap[j]?
theorem KeepT.refl (b : Nat) (w : World) : KeepT b w w := ⟨KeepsOthers.refl w, fun _ _ _ _ _ _ => rfl⟩
theorem KeepT.trans {b : Nat} {w w' w2 : World} (h : KeepT b w w') (k : KeepT b w' w2) : KeepT b w w2 :=
  ⟨h.1.trans k.1, fun j cs t hj hb ht => by
    have e := h.2 j cs t hj hb ht
    exact (k.2 j cs t (e.trans hj) hb ht).trans e⟩
theorem KeepT.setB (b i : Nat) (w : World) (v : Value) : KeepT b w (w.setCell ⟨b, i, none⟩ v) :=
  ⟨KeepsOthers.setCell _ _ _, fun j cs t _ hb _ => heap_setCell_other w ⟨b, i, none⟩ j v hb⟩
theorem KeepT.below {b : Nat} {w w' : World} (h : Below w.heap.size w w') : KeepT b w w' :=
  ⟨⟨h.size, fun k o hk _ => (h.block k (Array.getElem?_eq_some_iff.1 hk).1).trans hk⟩, fun j cs t hj _ _ => h.block j (Array.getElem?_eq_some_iff.1 hj).1⟩
theorem KeepT.grown {b B n : Nat} {w w' : World} {v : Value} {xs : List Value} (ho : w.ownsRow B 5 1 v n xs) (hg : w.grownBy w' v.ownBlock) : KeepT b w w' :=
  ⟨KeepsOthers.of_grownBy hg fun j o ej hj => by
    rcases ho.2 with ⟨rfl, _⟩ | ⟨g, cap, cur, rfl, _, hgb, _⟩
    · simp [Value.ownBlock] at ej
    · obtain rfl : g = j := by simpa [Value.ownBlock] using ej
      rw [hgb] at hj
      cases hj
      rfl,
   fun j cs t hj _ ht => hg.block j (Array.getElem?_eq_some_iff.1 hj).1 (fun e => Lib.ownBlock_ne ho hj ht e.symm)⟩
/-- A builder, later. -/
theorem builder_below {B b : Nat} {p : Value} {bs : List Value} {w w' : World} (h : Lib.BuilderAt 76 5 B b p bs w) (hB : Below w.heap.size w w') : Lib.BuilderAt 76 5 B b p bs w' := by
  obtain ⟨h1, v, h2, h3, h4⟩ := h
  exact ⟨h1, v, (hB.block b (Array.getElem?_eq_some_iff.1 h2).1).trans h2, own_below h3 hB, h4⟩
theorem builder_kept {B b : Nat} {p : Value} {bs : List Value} {w w' : World} {row : Option Nat} (h : Lib.BuilderAt 76 5 B b p bs w) (hg : w.grownBy w' row) (hr : ∀ r, row = some r → ∃ o : Obj, w.heap[r]? = some o ∧ o.isCells = false) : Lib.BuilderAt 76 5 B b p bs w' := by
  obtain ⟨h1, v, h2, h3, h4⟩ := h
  refine ⟨h1, v, (grownBy_keeps_cells hg hr h2 rfl).trans h2, own_later h3 fun g e => ?_, h4⟩
  rcases h3.2 with ⟨rfl, _⟩ | ⟨g', cap, cur, rfl, _, hgb, _⟩
  · simp [Value.ownBlock] at e
  · obtain rfl : g' = g := by simpa [Value.ownBlock] using e
    exact grownBy_keeps_cells hg hr hgb rfl
theorem isB_below {B b : Nat} {bs : List Value} {w w' : World} (h : Lib.IsBuilder 76 5 B b bs w) (hB : Below w.heap.size w w') : Lib.IsBuilder 76 5 B b bs w' := h.imp (builder_below · hB) (builder_below · hB)
theorem isB_kept {B b : Nat} {bs : List Value} {w w' : World} {row : Option Nat} (h : Lib.IsBuilder 76 5 B b bs w) (hg : w.grownBy w' row) (hr : ∀ r, row = some r → ∃ o : Obj, w.heap[r]? = some o ∧ o.isCells = false) : Lib.IsBuilder 76 5 B b bs w' := h.imp (builder_kept · hg hr) (builder_kept · hg hr)
theorem copyCheckK_any (B b : Nat) (bs : List Value) (w : World) (h : Lib.IsBuilder 76 5 B b bs w) :
    Calls Tryd.prog 59 #[.pointer (some ⟨b, 0, none⟩)] w fun e w' => e = .returned (.tuple #[]) ∧ (Lib.BuilderAt 76 5 B b (.pointer (some ⟨b, 0, none⟩)) bs w' ∧ Below B w w' ∧ KeepT b w w') := by
  rcases h with h | h
  · refine (copyCheck_fresh b w h.cell0 h.shape h.frozen0).mono ?_
    rintro e w' ⟨rfl, rfl⟩
    exact ⟨rfl, h.used _, (Below.refl B w).setCell (p := ⟨b, 0, none⟩) h.1 _, KeepT.setB _ _ _ _⟩
  · refine (copyCheck_used b w h.cell0).mono ?_
    rintro e w' ⟨rfl, rfl⟩
    exact ⟨rfl, h, Below.refl B _, KeepT.refl _ _⟩
set_option maxHeartbeats 2000000 in
set_option maxRecDepth 100000 in
theorem writeByteK_any (B b : Nat) (bs : List Value) (c : Int) (w : World) (h : Lib.IsBuilder 76 5 B b bs w) (hlen : bs.length + 1 ≤ 140737488355328) (hBw : B ≤ w.heap.size) :
    Calls Tryd.prog 43 #[.pointer (some ⟨b, 0, none⟩), .int .u8 c] w fun e w' => e = .returned .nilIface ∧ (Lib.BuilderAt 76 5 B b (.pointer (some ⟨b, 0, none⟩)) (bs ++ [.int .u8 c]) w' ∧ Below B w w' ∧ KeepT b w w') := by
  obtain ⟨i0, hi, hz0, hz1, hz2⟩ := info_parts infoByte
  go_enter Tryd.func43, Tryd.ntmps43
  go_wp2_with (go_at_call 59; refine (copyCheckK_any B b bs _ h).mono ?_)
  rintro e w1 ⟨rfl, h1, hb1, kt1⟩
  have KT := Lib.hid kt1
  clear kt1
  obtain ⟨hB, v, hbk, hown, hne⟩ := h1
  have c0 : w1.cell? ⟨b, 0, none⟩ = some (.pointer (some ⟨b, 0, none⟩)) := by rw [Lib.cell_of_heap hbk]; rfl
  have c1 : w1.cell? ⟨b, 1, none⟩ = some v := by rw [Lib.cell_of_heap hbk]; rfl
  go_wp2_with (at_builtin; refine wpList_append_own _ rfl _ _ 34 rfl B 5 i0 (.int .u8 0) 1 1 Tryd.underlying34 hi hz0 hz1 hz2 rfl (by decide) _ _ _ rfl (hown.alloc _) ⟨w1.heap.size, 0, none⟩ 1 1 [.int .u8 c] rfl rfl ?c1 ?c2 ?c3 ?c4 ?c5 ?_)
  case c1 =>
    intro j u hj
    match j, hj with
    | 0, hj => simp at hj; subst hj; simp [Addr.add]
  case c2 => intro u hu; simp at hu; subst hu; rfl
  case c3 => unfold maxLen; omega
  case c4 => omega
  case c5 => have := hb1.size; simp; omega
  intro v' w2 hown' hgrow _
  have hlt : b < w1.heap.size := by
    rcases Nat.lt_or_ge b w1.heap.size with h' | h'
    · exact h'
    · simp [Array.getElem?_eq_none h'] at hbk
  have hb2 : w2.heap[b]? = some (.cells #[.pointer (some ⟨b, 0, none⟩), v] 76 (0, 0)) := by
    rw [hgrow.block b (by simp; omega) (fun e => hne e.symm), Lib.alloc_old w1 _ b hlt]
    exact hbk
  have d0 : w2.cell? ⟨b, 0, none⟩ = some (.pointer (some ⟨b, 0, none⟩)) := by rw [Lib.cell_of_heap hb2]; rfl
  have d1 : w2.cell? ⟨b, 1, none⟩ = some v := by rw [Lib.cell_of_heap hb2]; rfl
  have f1 : w2.frozen? ⟨b, 1, none⟩ = false := Lib.frozen_of_heap hb2 1
  obtain ⟨g, cap, rfl⟩ : ∃ g cap, v' = .slice (some ⟨g, 0, none⟩) (bs.length + 1) cap := by
    rcases hown'.2 with ⟨_, h0⟩ | ⟨g, cap, cur, hv, _⟩
    · omega
    · exact ⟨g, cap, hv⟩
  go_wp2
  go_ret
  refine ⟨rfl, ?_, ?_, ((KT.out.trans (KeepT.below ((Below.refl _ w1).alloc (Nat.le_refl _) _))).trans (KeepT.grown (hown.alloc _) hgrow)).trans (KeepT.setB _ _ _ _)⟩
  · exact Lib.BuilderAt.put (T := 76) (e := 5) hB hb2 (bs' := bs ++ [.int .u8 c]) (by simpa using hown') (by decide)
  · exact ((hb1.alloc (by have := hb1.size; omega) _).grown hgrow (by have := hb1.size; simp; omega) (fun k hk => (hown.lt k hk).1)).setCell (p := ⟨b, 1, none⟩) hB _
set_option maxHeartbeats 2000000 in
set_option maxRecDepth 100000 in
theorem writeStringK_any (B b : Nat) (bs : List Value) (s : ByteArray) (w : World) (h : Lib.IsBuilder 76 5 B b bs w) (hlen : bs.length + s.size ≤ 140737488355328) (hBw : B ≤ w.heap.size) :
    Calls Tryd.prog 42 #[.pointer (some ⟨b, 0, none⟩), .string s] w fun e w' => e = .returned (.tuple #[.int .i64 s.size, .nilIface]) ∧ (Lib.BuilderAt 76 5 B b (.pointer (some ⟨b, 0, none⟩)) (bs ++ Lib.strCells s) w' ∧ Below B w w' ∧ KeepT b w w') := by
  obtain ⟨i0, hi, hz0, hz1, hz2⟩ := info_parts infoByte
  go_enter Tryd.func42, Tryd.ntmps42
  go_wp2_with (go_at_call 59; refine (copyCheckK_any B b bs _ h).mono ?_)
  rintro e w1 ⟨rfl, h1, hb1, kt1⟩
  have KT := Lib.hid kt1
  clear kt1
  obtain ⟨hB, v, hbk, hown, hne⟩ := h1
  have c0 : w1.cell? ⟨b, 0, none⟩ = some (.pointer (some ⟨b, 0, none⟩)) := by rw [Lib.cell_of_heap hbk]; rfl
  have c1 : w1.cell? ⟨b, 1, none⟩ = some v := by rw [Lib.cell_of_heap hbk]; rfl
  go_wp2_with (at_builtin; refine Lib.wpList_append_own_string _ rfl _ _ 34 9 rfl B 5 i0 Tryd.underlying34 Tryd.underlying9 hi hz0 hz1 hz2 _ _ _ rfl hown s rfl ?c3 ?c4 ?c5 ?_)
  case c3 => unfold maxLen; omega
  case c4 => omega
  case c5 => have := hb1.size; omega
  intro v' w2 hown' hgrow _
  have hlt : b < w1.heap.size := by
    rcases Nat.lt_or_ge b w1.heap.size with h' | h'
    · exact h'
    · simp [Array.getElem?_eq_none h'] at hbk
  have hb2 : w2.heap[b]? = some (.cells #[.pointer (some ⟨b, 0, none⟩), v] 76 (0, 0)) := by
    rw [hgrow.block b hlt (fun e => hne e.symm)]
    exact hbk
  have d0 : w2.cell? ⟨b, 0, none⟩ = some (.pointer (some ⟨b, 0, none⟩)) := by rw [Lib.cell_of_heap hb2]; rfl
  have d1 : w2.cell? ⟨b, 1, none⟩ = some v := by rw [Lib.cell_of_heap hb2]; rfl
  have f1 : w2.frozen? ⟨b, 1, none⟩ = false := Lib.frozen_of_heap hb2 1
  obtain ⟨ao, n', cap, rfl⟩ : ∃ ao n' cap, v' = .slice ao n' cap := by
    rcases hown'.2 with ⟨hv, _⟩ | ⟨g, cap, cur, hv, _⟩
    · exact ⟨_, _, _, hv⟩
    · exact ⟨_, _, _, hv⟩
  go_wp2
  go_ret2
  refine ⟨rfl, ?_, ?_, (KT.out.trans (KeepT.grown hown hgrow)).trans (KeepT.setB _ _ _ _)⟩
  · exact Lib.BuilderAt.put (T := 76) (e := 5) hB hb2 (bs' := bs ++ Lib.strCells s) (by simpa [Lib.strCells_length] using hown') (by decide)
  · exact (hb1.grown hgrow (by have := hb1.size; omega) (fun k hk => (hown.lt k hk).1)).setCell (p := ⟨b, 1, none⟩) hB _
theorem keepO_freeze (w : World) (a : Addr) (n : Nat) : KeepsOthers w (w.freeze a n) := by
  unfold World.freeze
  split
  · exact KeepsOthers.refl w
  · refine ⟨by simp, fun k o hk ho => ?_⟩
    simp only [Array.getElem?_modify]
    split
    · rw [hk]
      cases o <;> first | rfl | (simp [Obj.isCells] at ho)
    · exact hk
set_option maxHeartbeats 1000000 in
set_option maxRecDepth 100000 in
/-- String of a builder that holds a byte. -/
theorem stringK_any (B b : Nat) (l : List UInt8) (w : World) (h : Lib.IsBuilder 76 5 B b (Lib.byteCells l) w) (h0 : l ≠ []) :
    Calls Tryd.prog 44 #[.pointer (some ⟨b, 0, none⟩)] w fun e w' => e = .returned (.string ⟨l.toArray⟩) ∧ Below B w w' ∧ KeepsOthers w w' := by
  obtain ⟨p, hB, v, hbk, hown, hne⟩ : ∃ p, Lib.BuilderAt 76 5 B b p (Lib.byteCells l) w := by
    rcases h with h | h
    · exact ⟨_, h⟩
    · exact ⟨_, h⟩
  have hl0 : l.length ≠ 0 := by simpa using h0
  rw [Lib.byteCells_length] at hown
  obtain ⟨g, cap, cur, rfl, hbg, hg, hnc, hcm, hcs, htake⟩ : ∃ g cap cur, v = .slice (some ⟨g, 0, none⟩) l.length cap ∧ B ≤ g ∧ w.heap[g]? = some (.cells cur 5 (0, 0)) ∧ l.length ≤ cap ∧ cap ≤ maxLen ∧ cur.size = cap * 1 ∧ cur.toList.take (l.length * 1) = Lib.byteCells l := by
    rcases hown.2 with ⟨_, hz⟩ | ⟨g, cap, cur, hv, r⟩
    · exact absurd hz hl0
    · exact ⟨g, cap, cur, hv, r⟩
  have c1 : w.drew.cell? ⟨b, 1, none⟩ = some (.slice (some ⟨g, 0, none⟩) l.length cap) := by
    have : w.drew.heap[b]? = some (.cells #[p, .slice (some ⟨g, 0, none⟩) l.length cap] 76 (0, 0)) := hbk
    rw [Lib.cell_of_heap this]; rfl
  have hSD : (Builtin.unsafeSliceData_ #[34] 96 #[.slice (some ⟨g, 0, none⟩) l.length cap]).run Tryd.prog w.drew = .ok (.pointer (some ⟨g, 0, none⟩)) w.drew :=
    Lib.run_unsafeSliceData_row _ _ _ _ _ _ (by omega)
  have hUS : (Builtin.unsafeString_ #[96, 3] 9 #[.pointer (some ⟨g, 0, none⟩), .int .i64 l.length]).run Tryd.prog w.drew = .ok (.string ⟨l.toArray⟩) (w.drew.freeze ⟨g, 0, none⟩ l.length) := by
    refine Lib.run_unsafeString_row w.drew 96 3 9 5 Tryd.underlying96 Tryd.Builder_Extra_169.cellsByte g cur.size (by have hg' : w.drew.heap[g]? = some (.cells cur 5 (0, 0)) := hg; simp [World.shape?, hg']) l h0 (by omega) (by unfold maxLen at hcm; omega) ?_
    intro j x hx
    have := hown.cells (g := g) rfl j (.int .u8 x.toNat) (by simp [Lib.byteCells, hx])
    exact this
  have HB := Lib.hid (Lib.below_freeze (Below.drew (Below.refl B w)) (p := ⟨g, 0, none⟩) hbg l.length)
  clear h hl0 hown hbg hg hnc hcm hcs htake hbk hne h0
  go_enter Tryd.func44, Tryd.ntmps44
  go_wp2
  go_region
  all_goals (go_wp2; go_ret; exact ⟨rfl, HB.out, ⟨(keepO_freeze w.drew ⟨g, 0, none⟩ l.length).size, (keepO_freeze w.drew ⟨g, 0, none⟩ l.length).same⟩⟩)
end Go.Proofs.YtoldhhaplndkcaaDoor
