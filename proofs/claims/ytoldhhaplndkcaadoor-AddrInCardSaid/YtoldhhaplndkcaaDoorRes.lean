/- What is returned: an array of sixteen and a number. -/
import Derived.Test.YtoldhhaplndkcaaDoorSixt
namespace Go.Proofs.YtoldhhaplndkcaaDoor
open Go.RowKit Go.Shelf
set_option linter.unusedVariables false
set_option linter.unusedSimpArgs false

theorem results_16 {fn : Func} {p q : Tmp} (h : fn.results = #[.cell p 29, .tmp q]) (tmps : Array Value) (w : World) {b : Nat} {l : List Nat} (hp : tmps.getD p undef = .pointer (some ⟨b, 0, none⟩)) (hA : ArrAt T16 w b l) (hl : l.length = 16) :
    (results fn tmps).run Tryd.prog w = .ok (.tuple #[agg16 l, tmps.getD q undef]) w := by
  have hload := run_loadVar_row (P := Tryd.prog) w b T16 T16 (a16 l) (0, 0) _ hA Tryd.underlying29 rfl (by rw [size16, a16_size, hl])
  have hp' : tmps[p]?.getD undef = .pointer (some ⟨b, 0, none⟩) := by simpa using hp
  simp [results, h, hp', asAddr, hload]
end Go.Proofs.YtoldhhaplndkcaaDoor
