/- Strings put together; one byte as a string. -/
import Derived.Test.YtoknkgeojhekoaaDoorAloneW
import Derived.Laws.IdiomStrings
import Derived.Laws.Concat
namespace Go.Proofs.YtoknkgeojhekoaaDoor
open Go.RowKit Go.Shelf
set_option linter.unusedVariables false
set_option linter.unusedSimpArgs false

@[go_sem] theorem conv_one (W : World) (b : UInt8) : (convert 34 9 (.slice (some ⟨W.heap.size, 0, none⟩) 1 1)).run Tryd.prog (W.alloc (.cells #[.int .u8 (b.toNat : Int)] 5)) = .ok (.string ⟨#[b]⟩) (W.alloc (.cells #[.int .u8 (b.toNat : Int)] 5)) := by
  refine run_convert_bytes_back (P := Tryd.prog) (W.alloc (.cells #[.int .u8 (b.toNat : Int)] 5)) 34 9 5 ⟨W.heap.size, 0, none⟩ 1 [b] Tryd.underlying34 Tryd.underlying5 Tryd.underlying9 ?_
  intro j hj
  have hj : j = 0 := by simpa using hj
  subst hj
  rw [add_plain, World.cell?_alloc_new]
  rfl
theorem add_strs {a b c : ByteArray} (h : a.size + b.size ≤ 4611686018427387904) (e : a ++ b = c) (W : World) : (Op.stringOp .add a b).run Tryd.prog W = .ok (.string c) W := by
  rw [← e]
  exact run_string_add_sum W a b (by omega)
theorem one_size (b : UInt8) : (⟨#[b]⟩ : ByteArray).size = 1 := rfl
theorem slice_to (W : World) (g n c : Nat) (k : Nat) (h : k ≤ c) : (Instr.slice 22 (.slice (some ⟨g, 0, none⟩) n c) none (some (.int .i64 (k : Int))) none).run Tryd.prog W = .ok (.slice (some ⟨g, 0, none⟩) k c) W := by
  have ht : Tryd.prog.underlying 22 = some (.slice (Tryd.prog.elem 22)) := by simp [Program.elem, Tryd.underlying22]
  have he : Tryd.prog.elem 22 = 32 := by simp [Program.elem, Tryd.underlying22]
  rw [run_slice_h W 22 (some ⟨g, 0, none⟩) n c ht .i64 (k : Int) (by omega) (by omega), he, Tryd.sizeOf32]
  simp only [Result.andThen_ok, sliced, Int.toNat_natCast, Nat.zero_mul, Nat.sub_zero, Option.map_some, add_plain, Nat.add_zero, ite_self]
end Go.Proofs.YtoknkgeojhekoaaDoor
