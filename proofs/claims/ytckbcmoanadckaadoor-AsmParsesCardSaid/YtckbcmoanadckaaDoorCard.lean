/- The plain wrap of a tied row: the listed variables' data (X), the reach, and the world's shape; the table of powers; an instruction that came in. -/
import Derived.Test.YtckbcmoanadckaaDoorChecked
import Derived.Test.YtckbcmoanadckaaDoorTie
import Derived.Test.YtckbcmoanadckaaDoorCards
import Derived.Handed
import Derived.HandedShaped
import Derived.Shelf.Vars
import Derived.Lay
import Derived.LaidOnce
import Derived.SevenTiedAt
import Derived.ProofKit
import Derived.WalkKit
import Derived.Lib.LaidU8
import Derived.Lib.LaidTab
import Derived.Test.YtckbcmoanadckaaDoorAwake
import Derived.Deep.Slices
import Derived.OpenShut
import Derived.SizedLaws
import Derived.ShutString
import Derived.ChangeOld
import Derived.Below
namespace Go.Proofs.YtckbcmoanadckaaDoor
open Go.RowKit
set_option linter.unusedVariables false
variable {H : Type} {enc : TypeId × Value → H}
theorem returnsInHanded_of_change_and_shaped {a : Assume} {C : Checked} {os : Os} {f : FuncId} {fn : Func} {s : ChangeSpec} {conds : List PathCond} {apart fresh handsOn again : Bool} {X : World → Array Value → Prop}
    (hX : ∀ (w w' : World) (args : Array Value), w.heap = w'.heap → X w args → X w' args)
    (own : ownKnob C.prog.godebug = none) (started : os.Started) (noInit : C.prog.inits.idxOf? f = none) (hfn : C.prog.funcs[f]? = some fn)
    (witness : ∃ (w : World) (tape : Tape) (i : Input), w.os = os ∧ (w.forCall tape i).Shaped C.prog ∧ i.vars = [] ∧ Input.okWide C.prog (w.forCall tape i) .any w.heap.size f i ∧
      ((s.pre enc C.prog fn conds apart (w.forCall tape i).memory i.args ∧ X (w.forCall tape i).memory i.args) ∧ sizedMet enc C.prog fn (OpenSpec.ofChange s) apart (w.forCall tape i).memory i.args) ∧ a.holds C.prog (lone (Frame.enter C.prog f i.args .normal) [] (w.forCall tape i)))
    (contract : ∀ (W : World) (base : Nat) (args : Array Value) (ds gs : List (DataW H)) (before : List MemPlace),
      (∀ (j : Nat) t v, fn.params[j]? = some t → args[j]? = some v → Value.okWide C.prog W .any base t v) →
      DataW.Whole enc C.prog fn.params.toList s.vars apart W args.toList ds gs before →
      (DataW.weightsEach C.prog (fn.params.toList ++ s.plain.varTypes C.prog) (ds ++ gs)).all (· ≤ reachBytes) = true → X W args → W.ShapedOpen C.prog →
      Calls C.prog f args W fun e W' => ∃ v, e = .returned v ∧ s.post enc C.prog fn apart fresh handsOn again W args v W') :
    ReturnsInHanded a C os f .any (fun w args => (s.pre enc C.prog fn conds apart w args ∧ X w args) ∧ sizedMet enc C.prog fn (OpenSpec.ofChange s) apart w args) (s.post enc C.prog fn apart fresh handsOn again) := by
  refine returnsInHanded_of_calls own started noInit witness ?_
  intro w tape i _ hsh _ hok hpre hholds
  obtain ⟨_, _, _, fn', hfn', _, _, _, _, hval⟩ := hok
  have e : fn' = fn := Option.some.inj (hfn'.symm.trans hfn)
  subst e
  obtain ⟨⟨⟨ds, gs, before, hw, hc⟩, hx⟩, hz⟩ := hpre
  have hw' := DataW.Whole.of_heap (w' := w.forCall tape i) (by rfl) hw
  refine (contract (w.forCall tape i) w.heap.size i.args ds gs before hval hw' (hz.weights hw) (hX _ _ _ (by rfl) hx) hsh).mono fun e W' ⟨v, he, hp⟩ => ?_
  subst he
  exact ChangeSpec.post_blind hp
theorem own : ownKnob Tryd.prog.godebug = none := by kernel_rfl
theorem laidOut : laidOutB Tryd.prog = true := by kernel_rfl
theorem max_of {W : World} (h : W.ShapedOpen Tryd.prog) : ∃ m, W.cell? ⟨0, 0, none⟩ = some (.int .i64 m) :=
  cell_of_shapedOpen_int (t := 3) (zero := #[.int .i64 0]) h (of_decide_eq_true (by kernel_rfl)) (by kernel_rfl) rfl (by kernel_rfl) (by kernel_rfl) Tryd.underlying3
theorem tab10_of {W : World} {l : List (String × DataW Unit)} (h : laidMet Tryd.prog l W) (hm : ("internal/strconv.uint64pow10", Lib.tabData .u64 Lib.pow10Tab) ∈ l) : Tab10 W := by
  obtain ⟨g, t, cs, fuel, p, hg, hty, hvar, hd⟩ := Lib.laidMet.reads h hm
  obtain rfl := Option.some.inj ((show Tryd.prog.globalNamed "internal/strconv.uint64pow10" = some 1 by kernel_rfl).symm.trans hg)
  obtain rfl := Option.some.inj ((show (Tryd.prog.globals[1]?).map (·.type) = some 102 by kernel_rfl).symm.trans hty)
  have hcs := Lib.cells_of_tab Tryd.underlying102 Tryd.underlying78 (by kernel_rfl) (by kernel_rfl) hd
  unfold Tab10 Lib.TabIs
  rw [hvar, ← hcs]
open Go.ChangeShapes Go.WideShapes
section
variable {enc0 : TypeId × Value → H} {w : World} {base : Nat} {spare : Nat → Bool} {held : Bool}
theorem int_cell {P : Program} {t : TypeId} {k : IntKind} (ht : P.underlying t = some (.int k)) (hc : P.cellsOf t = 1) {cs : List Value} {off m : Nat} {o : Option (DataW H × List MemPlace)} (h : DataW.trod enc0 P w base spare held m t ((cs.drop off).take (P.cellsOf t)) = o) (ho : o.isSome = true) :
    ∃ n, cs[off]? = some (.int k n) ∧ (Lit.int k n).wf = true := by
  obtain ⟨y, rfl⟩ := Option.isSome_iff_exists.1 ho
  obtain ⟨n, e, _, hw⟩ := DataW.trod_int ht h
  rw [hc] at e
  refine ⟨n, ?_, hw⟩
  have := congrArg List.head? e
  simpa [List.head?_take, List.head?_drop] using this
theorem some_at {α : Type} {xs : List α} {n i : Nat} (h : xs.length = n) (hi : i < n) : xs[i]?.isSome = true := by
  rw [List.getElem?_eq_getElem (by omega)]
  rfl
theorem cellsN : Tryd.prog.cellsOf 25 = 4 := by kernel_rfl
theorem bytesN : Tryd.prog.bytesOf 25 = 8 := by kernel_rfl
theorem cells16 : Tryd.prog.cellsOf 22 = 1 := by kernel_rfl
theorem cells8 : Tryd.prog.cellsOf 5 = 1 := by kernel_rfl
theorem cells32 : Tryd.prog.cellsOf 23 = 1 := by kernel_rfl
theorem ins_of_trod {fuel : Nat} {cs : List Value} {x : DataW H × List MemPlace} (h : DataW.trod enc0 Tryd.prog w base spare held fuel 25 cs = some x) : ∃ i : Ins, cs = encN i ∧ InsOk i := by
  obtain ⟨xs, m, _, _, hl, hx, hf⟩ := DataW.trod_struct Tryd.underlying25 h
  rw [cellsN] at hl
  obtain ⟨v0, p0, w0⟩ := int_cell (off := 0) Tryd.underlying22 cells16 (hf 0 _ rfl) (some_at hx (by decide))
  obtain ⟨v1, p1, w1⟩ := int_cell (off := 1) Tryd.underlying5 cells8 (hf 1 _ rfl) (some_at hx (by decide))
  obtain ⟨v2, p2, w2⟩ := int_cell (off := 2) Tryd.underlying5 cells8 (hf 2 _ rfl) (some_at hx (by decide))
  obtain ⟨v3, p3, w3⟩ := int_cell (off := 3) Tryd.underlying23 cells32 (hf 3 _ rfl) (some_at hx (by decide))
  clear hf
  have b0 : 0 ≤ v0 ∧ v0 ≤ 65535 := by simpa [Lit.wf, IntKind.min, IntKind.max, IntKind.signed, IntKind.bits] using w0
  have b1 : 0 ≤ v1 ∧ v1 ≤ 255 := by simpa [Lit.wf, IntKind.min, IntKind.max, IntKind.signed, IntKind.bits] using w1
  have b2 : 0 ≤ v2 ∧ v2 ≤ 255 := by simpa [Lit.wf, IntKind.min, IntKind.max, IntKind.signed, IntKind.bits] using w2
  have b3 : 0 ≤ v3 ∧ v3 ≤ 4294967295 := by simpa [Lit.wf, IntKind.min, IntKind.max, IntKind.signed, IntKind.bits] using w3
  match cs, hl with
  | [c0, c1, c2, c3], _ =>
    simp at p0 p1 p2 p3
    subst p0 p1 p2 p3
    obtain ⟨n0, rfl⟩ := Int.eq_ofNat_of_zero_le b0.1
    obtain ⟨n1, rfl⟩ := Int.eq_ofNat_of_zero_le b1.1
    obtain ⟨n2, rfl⟩ := Int.eq_ofNat_of_zero_le b2.1
    obtain ⟨n3, rfl⟩ := Int.eq_ofNat_of_zero_le b3.1
    exact ⟨⟨n0, n1, n2, n3⟩, rfl, ⟨by show n0 ≤ _; omega, by show n1 ≤ _; omega, by show n2 ≤ _; omega, by show n3 ≤ _; omega⟩⟩
set_option maxRecDepth 100000 in
/-- An instruction that came in. -/
theorem open_ins {r : Reach} {b0 : Nat} {v : Value} {d : DataW H} {p : List MemPlace} (hv : Value.okWide Tryd.prog w r b0 25 v) (h : DataW.Trod enc0 Tryd.prog w base spare held 25 v d p) : ∃ i : Ins, v = aggN i ∧ InsOk i := by
  obtain ⟨cs, rfl, hsz⟩ := okWide_struct Tryd.underlying25 hv
  obtain ⟨fuel, hf⟩ := h
  obtain ⟨i, hi, ho⟩ := ins_of_trod hf
  refine ⟨i, ?_, ho⟩
  have : cs = (encN i).toArray := by
    rw [← hi]
    simp [Value.cells]
  rw [this]
  rfl
end
end Go.Proofs.YtckbcmoanadckaaDoor
