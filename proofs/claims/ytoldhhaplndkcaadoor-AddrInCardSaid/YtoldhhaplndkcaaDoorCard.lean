/- The plain wrap of a tied row: the listed variables' data (X), the reach, and the world's shape; what the listed variables give; arrays of bytes, bytes that came in. -/
import Derived.Test.YtoldhhaplndkcaaDoorChecked
import Derived.Test.YtoldhhaplndkcaaDoorTie
import Derived.Test.YtoldhhaplndkcaaDoorCards
import Derived.Test.YtoldhhaplndkcaaDoorAwake
import Derived.Handed
import Derived.HandedShaped
import Derived.Shelf.Vars
import Derived.Lay
import Derived.LaidOnce
import Derived.SevenTiedAt
import Derived.ProofKit
import Derived.WalkKit
import Derived.Lib.LaidU8
import Derived.Lib.LaidTab
import Derived.Stop.LaidErr
import Derived.RowKitTokens
import Derived.Deep.Slices
import Derived.OpenShut
import Derived.SizedLaws
import Derived.ShutString
import Derived.ChangeOld
import Derived.Below
namespace Go.Proofs.YtoldhhaplndkcaaDoor
open Go.RowKit
set_option linter.unusedVariables false
variable {H : Type} {enc : TypeId × Value → H}
theorem returnsInHanded_of_change_and_shaped {a : Assume} {C : Checked} {os : Os} {f : FuncId} {fn : Func} {s : ChangeSpec} {conds : List PathCond} {apart fresh handsOn again : Bool} {X : World → Array Value → Prop}
    (hX : ∀ (w w' : World) (args : Array Value), w.heap = w'.heap → X w args → X w' args)
    (own : ownKnob C.prog.godebug = none) (started : os.Started) (noInit : C.prog.inits.idxOf? f = none) (hfn : C.prog.funcs[f]? = some fn)
    (witness : ∃ (w : World) (tape : Tape) (i : Input), w.os = os ∧ (w.forCall tape i).Shaped C.prog ∧ i.vars = [] ∧ Input.okWide C.prog (w.forCall tape i) .any w.heap.size f i ∧
      ((s.pre enc C.prog fn conds apart (w.forCall tape i).memory i.args ∧ X (w.forCall tape i).memory i.args) ∧ sizedMet enc C.prog fn (OpenSpec.ofChange s) apart (w.forCall tape i).memory i.args) ∧ a.holds C.prog (lone (Frame.enter C.prog f i.args .normal) [] (w.forCall tape i)))
    (contract : ∀ (W : World) (base : Nat) (args : Array Value) (ds gs : List (DataW H)) (before : List MemPlace),
      (∀ (j : Nat) t v, fn.params[j]? = some t → args[j]? = some v → Value.okWide C.prog W .any base t v) →
      DataW.Whole enc C.prog fn.params.toList s.vars apart W args.toList ds gs before →
      (DataW.weightsEach C.prog (fn.params.toList ++ s.plain.varTypes C.prog) (ds ++ gs)).all (· ≤ reachBytes) = true → X W args → W.ShapedOpen C.prog →
      Calls C.prog f args W fun e W' => ∃ v, e = .returned v ∧ s.post enc C.prog fn apart fresh handsOn again W args v W') :
    ReturnsInHanded a C os f .any (fun w args => (s.pre enc C.prog fn conds apart w args ∧ X w args) ∧ sizedMet enc C.prog fn (OpenSpec.ofChange s) apart w args) (s.post enc C.prog fn apart fresh handsOn again) := by
  refine returnsInHanded_of_calls own started noInit witness ?_
  intro w tape i _ hsh _ hok hpre hholds
  obtain ⟨_, _, _, fn', hfn', _, _, _, _, hval⟩ := hok
  have e : fn' = fn := Option.some.inj (hfn'.symm.trans hfn)
  subst e
  obtain ⟨⟨⟨ds, gs, before, hw, hc⟩, hx⟩, hz⟩ := hpre
  have hw' := DataW.Whole.of_heap (w' := w.forCall tape i) (by rfl) hw
  refine (contract (w.forCall tape i) w.heap.size i.args ds gs before hval hw' (hz.weights hw) (hX _ _ _ (by rfl) hx) hsh).mono fun e W' ⟨v, he, hp⟩ => ?_
  subst he
  exact ChangeSpec.post_blind hp
theorem own : ownKnob Tryd.prog.godebug = none := by kernel_rfl
theorem laidOut : laidOutB Tryd.prog = true := by kernel_rfl
theorem max_of {W : World} (h : W.ShapedOpen Tryd.prog) : ∃ m, W.cell? ⟨3, 0, none⟩ = some (.int .i64 m) :=
  cell_of_shapedOpen_int (t := 3) (zero := #[.int .i64 0]) h (of_decide_eq_true (by kernel_rfl)) (by kernel_rfl) rfl (by kernel_rfl) (by kernel_rfl) Tryd.underlying3
theorem tab10_of {W : World} {l : List (String × DataW Unit)} (h : laidMet Tryd.prog l W) (hm : ("internal/strconv.uint64pow10", Lib.tabData .u64 Lib.pow10Tab) ∈ l) : Tab10 W := by
  obtain ⟨g, t, cs, fuel, p, hg, hty, hvar, hd⟩ := Lib.laidMet.reads h hm
  obtain rfl := Option.some.inj ((show Tryd.prog.globalNamed "internal/strconv.uint64pow10" = some 2 by kernel_rfl).symm.trans hg)
  obtain rfl := Option.some.inj ((show (Tryd.prog.globals[2]?).map (·.type) = some 127 by kernel_rfl).symm.trans hty)
  have hcs := Lib.cells_of_tab Tryd.underlying127 Tryd.underlying50 (by kernel_rfl) (by kernel_rfl) hd
  unfold Tab10 Lib.TabIs
  rw [hvar, ← hcs]
def deb64 : List Int := [0, 1, 56, 2, 57, 49, 28, 3, 61, 58, 42, 50, 38, 29, 17, 4, 62, 47, 59, 36, 45, 43, 51, 22, 53, 39, 33, 30, 24, 18, 12, 5, 63, 55, 48, 27, 60, 41, 37, 16, 46, 35, 44, 21, 52, 32, 23, 11, 54, 26, 40, 15, 34, 20, 31, 10, 25, 14, 19, 9, 13, 8, 7, 6]
theorem deb_of {W : World} {l : List (String × DataW Unit)} (h : laidMet Tryd.prog l W) (hm : ("math/bits.deBruijn64tab", Lib.tabData .u8 deb64) ∈ l) : Deb W := by
  obtain ⟨g, t, cs, fuel, p, hg, hty, hvar, hd⟩ := Lib.laidMet.reads h hm
  have hn : Tryd.prog.globalNamed "math/bits.deBruijn64tab" = some 7 := by kernel_rfl
  obtain rfl := Option.some.inj (hn.symm.trans hg)
  obtain rfl := Option.some.inj ((show (Tryd.prog.globals[7]?).map (·.type) = some 144 by kernel_rfl).symm.trans hty)
  have hcs := Lib.cells_of_tab Tryd.underlying144 Tryd.underlying5 (by kernel_rfl) (by kernel_rfl) hd
  have hc := World.var?_cell hn hvar 15
  unfold Deb
  rw [hc, ← Array.getElem?_toList, hcs]
  rfl
theorem nameE : Tryd.prog.typeNamed8 "*errors.errorString" = some 133 := by kernel_rfl
theorem starE : "*" ++ "errors.errorString" = "*errors.errorString" := by decide
theorem rowE (u : TypeId) (h : Tryd.prog.typeName? 3 u = some "*errors.errorString") : u = 133 :=
  typeName_ptr_named (nm := "errors.errorString") (by rw [starE]; kernel_rfl) (by kernel_rfl) (by decide) u (by rw [starE]; exact h)
theorem sent_of {W : World} {n : String} {g : Nat} {text : List UInt8} {r : List (String × DataW Unit)} (h : laidMet Tryd.prog ((n, .iface "*errors.errorString" (.ptr (.agg [.lit (.string text)]))) :: r) W) (hg : Tryd.prog.globalNamed n = some g) (ht : (Tryd.prog.globals[g]?).map (·.type) = some 52) :
    ∃ v, W.cell? ⟨g, 0, none⟩ = some v ∧ (v = .nilIface ∨ ∃ t p, v = .iface t p) := by
  obtain ⟨a, s, hv, _⟩ := laid_sentinel h hg ht Tryd.underlying52 rowE Tryd.underlying133 Tryd.underlying135 rfl rfl Tryd.underlying9 (by kernel_rfl) (by kernel_rfl)
  exact ⟨_, World.var?_cell hg hv 0, .inr ⟨_, _, rfl⟩⟩
theorem given_of {W : World} {m : Int} (hX : laidMet Tryd.prog [("math/bits.deBruijn32tab", Rows.laid_math_bits_deBruijn32tab), ("math/bits.deBruijn64tab", Rows.laid_math_bits_deBruijn64tab), ("internal/strconv.uint64pow10", Rows.laid_internal_strconv_uint64pow10), ("unicode/utf8.acceptRanges", Rows.laid_unicode_utf8_acceptRanges), ("strconv.ErrRange", Rows.laid_strconv_ErrRange), ("strconv.ErrSyntax", Rows.laid_strconv_ErrSyntax), ("unicode/utf8.first", Rows.laid_unicode_utf8_first)] W)
    (hm : W.cell? ⟨3, 0, none⟩ = some (.int .i64 m)) : Given m W where
  max := hm
  err := ⟨sent_of hX.tail.tail.tail.tail.tail (by kernel_rfl) (by kernel_rfl), sent_of hX.tail.tail.tail.tail (by kernel_rfl) (by kernel_rfl)⟩
  tab := tab10_of hX (.tail _ (.tail _ (.head _)))
  deb := deb_of hX (.tail _ (.head _))
open Go.ChangeShapes Go.WideShapes
section
variable {enc0 : TypeId × Value → H} {w : World} {base : Nat} {spare : Nat → Bool} {held : Bool}
theorem int_cell {P : Program} {t : TypeId} {k : IntKind} (ht : P.underlying t = some (.int k)) (hc : P.cellsOf t = 1) {cs : List Value} {off m : Nat} {o : Option (DataW H × List MemPlace)} (h : DataW.trod enc0 P w base spare held m t ((cs.drop off).take (P.cellsOf t)) = o) (ho : o.isSome = true) :
    ∃ n, cs[off]? = some (.int k n) ∧ (Lit.int k n).wf = true := by
  obtain ⟨y, rfl⟩ := Option.isSome_iff_exists.1 ho
  obtain ⟨n, e, _, hw⟩ := DataW.trod_int ht h
  rw [hc] at e
  refine ⟨n, ?_, hw⟩
  have := congrArg List.head? e
  simpa [List.head?_take, List.head?_drop] using this
theorem some_at {α : Type} {xs : List α} {n i : Nat} (h : xs.length = n) (hi : i < n) : xs[i]?.isSome = true := by
  rw [List.getElem?_eq_getElem (by omega)]
  rfl
theorem cellsU8 : Tryd.prog.cellsOf 5 = 1 := by kernel_rfl
theorem bytesU : Tryd.prog.bytesOf 5 = 1 := by kernel_rfl
def natOf : Value → Nat
  | .int _ z => z.toNat
  | _ => 0
set_option maxRecDepth 100000 in
/-- An array of bytes that came in. -/
theorem open_arr {t : TypeId} {n : Nat} {r : Reach} {b0 : Nat} {v : Value} {d : DataW H} {p : List MemPlace} (ht : Tryd.prog.underlying t = some (.array n 5)) (hct : Tryd.prog.cellsOf t = n) (hv : Value.okWide Tryd.prog w r b0 t v) (h : DataW.Trod enc0 Tryd.prog w base spare held t v d p) :
    ∃ l : List Nat, v = .agg (l.map c8).toArray ∧ l.length = n ∧ ∀ x ∈ l, x < 256 := by
  obtain ⟨cs, rfl, hsz⟩ : ∃ cs, v = .agg cs ∧ cs.size = Tryd.prog.cellsOf t := by
    simp only [Value.okWide, ht] at hv
    obtain ⟨cs, h1, h2, _⟩ := hv
    exact ⟨cs, h1, h2⟩
  rw [hct] at hsz
  obtain ⟨fuel, hf⟩ := h
  obtain ⟨xs, m, _, _, hl, hx, hq⟩ := DataW.trod_array ht hf
  have hcell : ∀ i, i < n → ∃ z : Int, cs.toList[i]? = some (.int .u8 z) ∧ 0 ≤ z ∧ z ≤ 255 := fun i hi => by
    have h2 := hq i hi
    have h3 := int_cell (off := i * Tryd.prog.cellsOf 5) Tryd.underlying5 cellsU8 h2 (some_at hx hi)
    rw [cellsU8, Nat.mul_one] at h3
    obtain ⟨z, h4, h5⟩ := h3
    refine ⟨z, by simpa [Value.cells] using h4, ?_⟩
    simpa [Lit.wf, IntKind.min, IntKind.max, IntKind.signed, IntKind.bits] using h5
  refine ⟨cs.toList.map natOf, ?_, by rw [List.length_map, Array.length_toList, hsz], fun x hx => ?_⟩
  · refine congrArg Value.agg (Array.ext' (show cs.toList = (cs.toList.map natOf).map c8 from ?_))
    apply List.ext_getElem?
    intro i
    rw [List.getElem?_map, List.getElem?_map]
    by_cases hi : i < n
    · obtain ⟨z, h1, h2, h3⟩ := hcell i hi
      rw [h1]
      show some (Value.int .u8 z) = some (Value.int .u8 ((z.toNat : Nat) : Int))
      rw [Int.toNat_of_nonneg h2]
    · rw [List.getElem?_eq_none (by rw [Array.length_toList, hsz]; omega)]
      rfl
  · obtain ⟨v, hv, rfl⟩ := List.mem_map.1 hx
    obtain ⟨i, hi, he⟩ := List.getElem_of_mem hv
    obtain ⟨z, h1, h2, h3⟩ := hcell i (by rw [Array.length_toList, hsz] at hi; exact hi)
    rw [List.getElem?_eq_getElem hi, he] at h1
    cases h1
    show z.toNat < 256
    omega
theorem agg4_arr {l : List Nat} (h : l.length = 4) : Value.agg (l.map c8).toArray = agg4 l := by
  obtain ⟨a, b, c, d, rfl⟩ := four_of h
  rfl
theorem pair_g {x y : Nat} (hy : y < 256) : (x * 256 + y) / 256 = x ∧ (x * 256 + y) % 256 = y := by omega
theorem groups_of : ∀ (n : Nat) (l : List Nat), l.length = 2 * n → (∀ x ∈ l, x < 256) → ∃ gs : List Nat, gs.length = n ∧ (∀ g ∈ gs, g < 65536) ∧ bytesG gs = l
  | 0, [], _, _ => ⟨[], rfl, (fun g h => by cases h), rfl⟩
  | 0, _ :: _, h, _ => by simp at h
  | n + 1, [], h, _ => by simp at h
  | n + 1, [_], h, _ => by simp at h; omega
  | n + 1, x :: y :: l, h, hx => by
    obtain ⟨gs, h1, h2, h3⟩ := groups_of n l (by simp at h; omega) (fun z hz => hx z (List.mem_cons_of_mem _ (List.mem_cons_of_mem _ hz)))
    have hx1 := hx x (List.mem_cons_self ..)
    have hy1 := hx y (List.mem_cons_of_mem _ (List.mem_cons_self ..))
    refine ⟨(x * 256 + y) :: gs, by rw [List.length_cons, h1], fun g hg => ?_, ?_⟩
    · rcases List.mem_cons.1 hg with rfl | hg
      · omega
      · exact h2 g hg
    · show [(x * 256 + y) / 256, (x * 256 + y) % 256] ++ bytesG gs = x :: y :: l
      rw [(pair_g hy1).1, (pair_g hy1).2, h3]
      rfl
/-- Bytes that came in. -/
theorem open_bytes {A : Option Addr} {len cap : Nat} {d : DataW H} {p : List MemPlace} (h : DataW.Trod enc0 Tryd.prog w 0 (fun _ => true) true 34 (.slice A len cap) d p) :
    ∃ ns : List UInt8, len = ns.length ∧ Rs encU1 w A ns ∧ ns.length ≤ cap ∧ (A = none → cap = 0) ∧ (d = .nil ∧ cap = 0 ∨ ∃ es rs, d = .slice es rs ∧ es.length + rs.length = cap) := by
  obtain ⟨fuel, hf⟩ := h
  rcases open_ints Tryd.underlying34 Tryd.underlying5 cellsU8 hf with ⟨e, ex⟩ | ⟨a, l, c, zs, e, hb, hl, hc, hz, ex, hel, hwf⟩
  · simp [Value.cells] at e
    obtain ⟨rfl, rfl, rfl⟩ := e
    exact ⟨[], rfl, Rs.nil, Nat.le_refl _, fun _ => rfl, .inl ⟨congrArg Prod.fst ex, rfl⟩⟩
  · simp [Value.cells] at e
    obtain ⟨rfl, rfl, rfl⟩ := e
    simp only [if_true] at hz
    have hd : d = _ := congrArg Prod.fst ex
    have hlen : ((zs.take len).map fun z => UInt8.ofNat z.toNat).length = len := by simp; omega
    refine ⟨(zs.take len).map fun z => UInt8.ofNat z.toNat, hlen.symm, ?_, by rw [hlen]; omega, (fun h => by cases h), .inr ⟨_, _, hd, by simp [lits]; omega⟩⟩
    intro hp
    have hp : 0 < len := by rw [hlen] at hp; exact hp
    obtain ⟨b, off, spot⟩ := a
    have h0 := hel 0 (by omega)
    have hspot : spot = none := by simpa [Addr.add] using World.cell?_spot h0
    subst hspot
    refine ⟨b, off, rfl, fun i u hu => ?_⟩
    rw [flat_nat] at hu
    unfold natsU at hu
    rw [List.map_map, List.map_map, List.getElem?_map] at hu
    by_cases hi : i < len
    · have hiz : i < zs.length := by omega
      rw [List.getElem?_take, if_pos hi, List.getElem?_eq_getElem hiz] at hu
      have hw := hwf zs[i] (List.getElem_mem hiz)
      have hc := hel i hiz
      rw [add_plain, List.getD_eq_getElem?_getD, List.getElem?_eq_getElem hiz] at hc
      have hr : 0 ≤ zs[i] ∧ zs[i] ≤ 255 := by simpa [Lit.wf, IntKind.min, IntKind.max, IntKind.signed, IntKind.bits] using hw
      rw [hc, ← hu]
      show some (Value.int .u8 zs[i]) = some (Value.int .u8 (((UInt8.ofNat zs[i].toNat).toNat : Nat) : Int))
      rw [UInt8.toNat_ofNat', Nat.mod_eq_of_lt (by omega), Int.toNat_of_nonneg hr.1]
    · rw [List.getElem?_eq_none (by simp; omega)] at hu
      cases hu
end
end Go.Proofs.YtoldhhaplndkcaaDoor
