/- A []byte that came in: what is known of it. -/
import Derived.Test.YtoknkgeojhekoaaDoorBlanksW
import Derived.Deep.Slices
import Derived.ChangeSlices
import Derived.OpenShut
import Derived.SizedLaws
namespace Go.Proofs.YtoknkgeojhekoaaDoor
open Go.ChangeShapes Go.WideShapes Go.ChangeMaps Go.RowKit
set_option linter.unusedVariables false
set_option linter.unusedSimpArgs false

theorem bytesU : Tryd.prog.bytesOf 5 = 1 := by kernel_rfl
theorem cellsU8 : Tryd.prog.cellsOf 5 = 1 := by kernel_rfl
section
variable {H : Type} {enc0 : TypeId × Value → H} {w : World}
theorem open_bytes {A : Option Addr} {len cap : Nat} {d : DataW H} {p : List MemPlace} (h : DataW.Trod enc0 Tryd.prog w 0 (fun _ => true) true 34 (.slice A len cap) d p) :
    ∃ ns : List Int, len = ns.length ∧ Bys w A ns ∧ ns.length ≤ cap ∧ (A = none → cap = 0) ∧ (d = .nil ∧ cap = 0 ∨ ∃ es rs, d = .slice es rs ∧ es.length + rs.length = cap) := by
  obtain ⟨fuel, hf⟩ := h
  rcases open_ints Tryd.underlying34 Tryd.underlying5 cellsU8 hf with ⟨e, ex⟩ | ⟨a, l, c, zs, e, hb, hl, hc, hz, ex, hel, hwf⟩
  · simp [Value.cells] at e
    obtain ⟨rfl, rfl, rfl⟩ := e
    exact ⟨[], rfl, (fun h => by cases h), Nat.le_refl _, fun _ => rfl, .inl ⟨congrArg Prod.fst ex, rfl⟩⟩
  · simp [Value.cells] at e
    obtain ⟨rfl, rfl, rfl⟩ := e
    simp only [if_true] at hz
    have hd : d = _ := congrArg Prod.fst ex
    refine ⟨zs.take len, by simp; omega, ?_, by simp; omega, (fun h => by cases h), .inr ⟨_, _, hd, by simp [lits]; omega⟩⟩
    intro hp
    have hp : 0 < len := by simp at hp; omega
    obtain ⟨b, off, spot⟩ := a
    have h0 := hel 0 (by omega)
    have hspot : spot = none := by simpa [Addr.add] using World.cell?_spot h0
    subst hspot
    refine ⟨b, off, rfl, fun i hi => ?_⟩
    have hi : i < zs.length := by simp at hi; omega
    have hw := hwf (zs.getD i 0) (by rw [List.getD_eq_getElem?_getD, List.getElem?_eq_getElem hi]; exact List.getElem_mem hi)
    have hc := hel i hi
    rw [add_plain] at hc
    have hr : 0 ≤ zs.getD i 0 ∧ zs.getD i 0 ≤ 255 := by simpa [Lit.wf, IntKind.min, IntKind.max, IntKind.signed, IntKind.bits] using hw
    exact ⟨_, hr.1, hr.2, hc⟩
end
end Go.Proofs.YtoknkgeojhekoaaDoor
