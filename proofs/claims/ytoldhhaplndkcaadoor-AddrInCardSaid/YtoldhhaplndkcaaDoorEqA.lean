/- Arrays' equality; a whole array stored into a new block; what the listed variables give. -/
import Derived.Test.YtoldhhaplndkcaaDoorInW
import Derived.Test.YtoldhhaplndkcaaDoorPr6W
import Derived.Test.YtoldhhaplndkcaaDoorP6R
import Derived.Test.YtoldhhaplndkcaaDoorP6Q
import Derived.Test.YtoldhhaplndkcaaDoorP4W
import Derived.Test.YtoldhhaplndkcaaDoorP4R
import Derived.Test.YtoldhhaplndkcaaDoorPr4W
import Derived.Laws.StructEq
import Derived.WalkSpells
import Derived.WalkLawsBesides
namespace Go.Proofs.YtoldhhaplndkcaaDoor
open Go.RowKit Go.Shelf Go.Deep
set_option linter.unusedVariables false
set_option linter.unusedSimpArgs false

theorem all_range_int : ∀ (xs ys : List Int), xs.length = ys.length → ((List.range xs.length).all fun i => xs.getD i 0 == ys.getD i 0) = (xs == ys)
  | [], [], _ => rfl
  | x :: xs, y :: ys, h => by
    have ih := all_range_int xs ys (by simpa using h)
    rw [List.length_cons, List.range_succ_eq_map, List.all_cons, List.all_map]
    simp only [List.getD_cons_zero, Function.comp_def, List.getD_cons_succ, ih]
    simp [List.cons_beq_cons]
  | [], _ :: _, h => by simp at h
  | _ :: _, [], h => by simp at h
/-- '==' of two arrays of whole numbers. -/
theorem run_equalIn_ints {P : Program} (w : World) (d : Nat) (t e : TypeId) (k : IntKind) (n : Nat) (ht : P.underlying t = some (.array n e)) (he : P.underlying e = some (.int k)) (hsz : ∀ w, (sizeOf e).run P w = .ok 1 w)
    (xs ys : List Int) (hx : xs.length = n) (hy : ys.length = n) :
    (Op.equalIn (d + 2) t (.agg (xs.map (Value.int k)).toArray) (.agg (ys.map (Value.int k)).toArray)).run P w = .ok (xs == ys) w := by
  rw [← all_range_int xs ys (hx.trans hy.symm), hx, List.range_eq_range', Op.equalIn]
  simp only [Sem.run_bind, run_underlying ht, Result.andThen_ok, hsz, Std.Legacy.Range.forIn_eq_forIn_range', Std.Legacy.Range.size, Nat.sub_zero, Nat.add_sub_cancel, Nat.div_one]
  have hl : ∀ i ∈ List.range' 0 n 1, i < n := fun i hi => by simpa using (List.mem_range'_1.1 hi).2
  generalize List.range' 0 n 1 = l at hl ⊢
  induction l with
  | nil => simp
  | cons i l ih =>
    have hi : i < n := hl i (by simp)
    have px : (part e (xs.map (Value.int k)).toArray (i * 1)).run P w = .ok (.int k (xs.getD i 0)) w := by
      simp [part, isAgg, run_underlying he, List.getD, List.getElem?_eq_getElem (show i < xs.length by omega)]
    have py : (part e (ys.map (Value.int k)).toArray (i * 1)).run P w = .ok (.int k (ys.getD i 0)) w := by
      simp [part, isAgg, run_underlying he, List.getD, List.getElem?_eq_getElem (show i < ys.length by omega)]
    have pe : (Op.equalIn (d + 1) e (.int k (xs.getD i 0)) (.int k (ys.getD i 0))).run P w = .ok (xs.getD i 0 == ys.getD i 0) w := run_equalIn_int w d e k k _ _ he
    simp only [List.forIn_cons, Sem.run_bind, px, py, pe, Result.andThen_ok, List.all_cons]
    cases hb : (xs.getD i 0 == ys.getD i 0)
    · simp
    · simp only [Bool.not_true, Bool.false_eq_true, if_false, Sem.run_pure, Result.andThen_ok, Bool.true_and]
      exact ih fun j hj => hl j (by simp [hj])
def toI (l : List Nat) : List Int := l.map fun n : Nat => (n : Int)
theorem toI_inj {l m : List Nat} : toI l = toI m ↔ l = m := by
  unfold toI
  constructor
  · intro h
    have := congrArg (List.map Int.toNat) h
    simpa [List.map_map, Function.comp_def] using this
  · intro h; rw [h]
theorem toI_beq (l m : List Nat) : (toI l == toI m) = decide (l = m) := by rw [Bool.eq_iff_iff, beq_iff_eq, toI_inj, decide_eq_true_iff]
theorem a16_toI (l : List Nat) : a16 l = ((toI l).map (Value.int .u8)).toArray := by
  unfold a16 toI
  rw [List.map_map]
  rfl
theorem run_eql_a16 (w : World) (l m : List Nat) (hl : l.length = 16) (hm : m.length = 16) : (binOp .eql T16 (agg16 l) (agg16 m)).run Tryd.prog w = .ok (.bool (decide (l = m))) w := by
  unfold agg16
  rw [a16_toI, a16_toI, run_eql_struct, run_equalIn_ints w 9998 _ _ .u8 16 Tryd.underlying29 Tryd.underlying5 Tryd.sizeOf5 _ _ (by unfold toI; rw [List.length_map, hl]) (by unfold toI; rw [List.length_map, hm])]
  rw [toI_beq]
  rfl
theorem agg4_toI {l : List Nat} (h : l.length = 4) : agg4 l = .agg ((toI l).map (Value.int .u8)).toArray := by
  obtain ⟨a, b, c, d, rfl⟩ := four_of h
  rfl
theorem run_eql_a4 (w : World) (l m : List Nat) (hl : l.length = 4) (hm : m.length = 4) : (binOp .eql 22 (agg4 l) (agg4 m)).run Tryd.prog w = .ok (.bool (decide (l = m))) w := by
  rw [agg4_toI hl, agg4_toI hm, run_eql_struct, run_equalIn_ints w 9998 _ _ .u8 4 Tryd.underlying22 Tryd.underlying5 Tryd.sizeOf5 _ _ (by unfold toI; rw [List.length_map, hl]) (by unfold toI; rw [List.length_map, hm])]
  rw [toI_beq]
  rfl
theorem eqIn_a16 (w : World) (l m : List Nat) (hl : l.length = 16) (hm : m.length = 16) : (Op.equalIn 10000 T16 (.agg (a16 l)) (.agg (a16 m))).run Tryd.prog w = .ok (decide (l = m)) w := by
  rw [a16_toI, a16_toI, run_equalIn_ints w 9998 _ _ .u8 16 Tryd.underlying29 Tryd.underlying5 Tryd.sizeOf5 _ _ (by unfold toI; rw [List.length_map, hl]) (by unfold toI; rw [List.length_map, hm]), toI_beq]
theorem eqIn_a4 (w : World) (l m : List Nat) (hl : l.length = 4) (hm : m.length = 4) : (Op.equalIn 10000 22 (agg4 l) (agg4 m)).run Tryd.prog w = .ok (decide (l = m)) w := by
  rw [agg4_toI hl, agg4_toI hm, run_equalIn_ints w 9998 _ _ .u8 4 Tryd.underlying22 Tryd.underlying5 Tryd.sizeOf5 _ _ (by unfold toI; rw [List.length_map, hl]) (by unfold toI; rw [List.length_map, hm]), toI_beq]
theorem setRow_alloc_new (w : World) (c c' : Array Value) (t : TypeId) : (w.alloc (.cells c t)).setRow w.heap.size c' = w.alloc (.cells c' t) := by
  simp only [World.setRow, World.alloc]
  congr 1
  apply Array.ext_getElem?
  intro i
  rw [Array.getElem?_modify]
  by_cases h : w.heap.size = i
  · subst h
    simp
  · have h' : ¬ i = w.heap.size := fun e => h e.symm
    simp [h, h', Array.getElem?_push]
theorem run_storeA_new (w : World) (c : Array Value) (l : List Nat) (hc : c.size = 16) (hl : l.length = 16) : (storeA (.pointer (some ⟨w.heap.size, 0, none⟩)) (agg16 l)).run Tryd.prog (w.alloc (.cells c T16)) = .ok () (w.alloc (.cells (a16 l) T16)) := by
  have := run_storeVar_row (P := Tryd.prog) (w.alloc (.cells c T16)) w.heap.size T16 T16 c (a16 l) (heap_alloc_new w _) (by rw [size16, a16_size, hl]) (by rw [a16_size, hl, hc]) (oneCell16 l)
  simp only [storeA, Instr.storeAt, Instr.sureAddr, Sem.run_bind, Sem.run_pure, Result.andThen_ok]
  rw [this, setRow_alloc_new]
/-- What the listed variables give. -/
structure Given (m : Int) (w : World) : Prop where
  max : w.cell? ⟨3, 0, none⟩ = some (.int .i64 m)
  err : ErrVars w
  tab : Tab10 w
  deb : Deb w
theorem Given.later {m : Int} {w W : World} (h : Given m w) (hB : Below w.heap.size w W) : Given m W :=
  ⟨max_later h.max hB, h.err.later hB, h.tab.later hB, h.deb.later hB⟩
theorem low_any (x : Int) (w : World) : Calls Tryd.prog 27 #[.int .i64 x] w fun e w' => e = .returned (.int .i64 (Go.bits .and .i64 x 9223372036854775807)) ∧ w = w' := by
  go_enter Tryd.func27, Tryd.ntmps27
  go_wp2
  go_ret
  exact ⟨rfl, rfl⟩
end Go.Proofs.YtoldhhaplndkcaaDoor
