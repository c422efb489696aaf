/- Arrays of sixteen bytes: loaded and stored whole; groups as bytes. -/
import Derived.Test.YtoldhhaplndkcaaDoorGap
namespace Go.Proofs.YtoldhhaplndkcaaDoor
open Go.RowKit Go.Shelf
set_option linter.unusedVariables false
set_option linter.unusedSimpArgs false

/-- The array's cells, as a name. -/
def a16 (l : List Nat) : Array Value := (l.map c8).toArray
abbrev agg16 (l : List Nat) : Value := .agg (a16 l)
abbrev T16 : TypeId := 29
theorem a16_size (l : List Nat) : (a16 l).size = l.length := by simp [a16]
theorem size16 : (Tryd.prog.info? 29).map (·.size) = some 16 := by kernel_rfl
/-- A whole array, loaded and stored: names that the walk doesn't open. -/
def loadA (v : Value) : Sem Value := Instr.loadAt 29 v
def storeA (v x : Value) : Sem Unit := Instr.storeAt 29 v x
@[go_sem ↓] theorem execOp_load_arr (ρ : Operand → Value) (dst : Option Tmp) (x : Operand) (ty : TypeId) (pos : String) (after : Array Edge) (guard : Option (Nat × Bool)) :
    execOp ρ { dst, op := .load 29 x, type := ty, pos, after, guard } = (do pure (.value (← loadA (ρ x)))) := rfl
@[go_sem ↓] theorem execOp_store_arr (ρ : Operand → Value) (dst : Option Tmp) (x y : Operand) (ty : TypeId) (pos : String) (after : Array Edge) (guard : Option (Nat × Bool)) :
    execOp ρ { dst, op := .store 29 x y, type := ty, pos, after, guard } = (do storeA (ρ x) (ρ y); pure .skip) := rfl
theorem run_loadA {w : World} {b : Nat} {l : List Nat} (h : ArrAt T16 w b l) (hl : l.length = 16) : (loadA (.pointer (some ⟨b, 0, none⟩))).run Tryd.prog w = .ok (agg16 l) w := by
  have := run_loadVar_row (P := Tryd.prog) w b T16 T16 (a16 l) (0, 0) _ h Tryd.underlying29 rfl (by rw [size16, a16_size, hl])
  simp only [loadA, Instr.loadAt, Instr.sureAddr, Sem.run_bind, Sem.run_pure, Result.andThen_ok]
  exact this
theorem oneCell16 (l : List Nat) : (a16 l).all (·.oneCell') = true := by
  rw [Array.all_eq_true_iff_forall_mem]
  intro u hu
  simp only [a16, List.mem_toArray, List.mem_map] at hu
  obtain ⟨n, _, rfl⟩ := hu
  rfl
theorem run_storeA {w : World} {b : Nat} {l m : List Nat} (h : ArrAt T16 w b l) (hl : l.length = 16) (hm : m.length = 16) : (storeA (.pointer (some ⟨b, 0, none⟩)) (agg16 m)).run Tryd.prog w = .ok () (w.setRow b (a16 m)) := by
  have := run_storeVar_row (P := Tryd.prog) w b T16 T16 (a16 l) (a16 m) h (by rw [size16, a16_size, hm]) (by rw [a16_size, a16_size, hl, hm]) (oneCell16 m)
  simp only [storeA, Instr.storeAt, Instr.sureAddr, Sem.run_bind, Sem.run_pure, Result.andThen_ok]
  exact this
theorem ArrAt.setRow {t : TypeId} {w : World} {b : Nat} {l m : List Nat} (h : ArrAt t w b l) : ArrAt t (w.setRow b (a16 m)) b m := by
  unfold ArrAt at *
  simp only [World.setRow]
  rw [Array.getElem?_modify, if_pos rfl, h]
  rfl
theorem below_setRow {B b : Nat} {w W : World} (h : Below B w W) (hb : B ≤ b) (cs : Array Value) : Below B w (W.setRow b cs) := by
  refine h.trans ⟨rfl, rfl, rfl, by simp, fun i hi => ?_⟩
  simp only [World.setRow, Array.getElem?_modify]
  rw [if_neg (by omega)]
end Go.Proofs.YtoldhhaplndkcaaDoor
