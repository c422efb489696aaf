/- A []api.Node that came in: what is known of it. -/
import Derived.Test.YtedhlofmkehfkaaSpec
import Derived.Deep.Slices
import Derived.OpenShut
import Derived.SizedLaws
import Derived.ShutString
import Derived.ChangeOld
import Derived.Below
namespace Go.Proofs.Ytedhlofmkehfkaa
open Go.ChangeShapes Go.WideShapes Go.RowKit Go.Shelf
set_option linter.unusedVariables false
set_option linter.unusedSimpArgs false

section
variable {H : Type} {enc0 : TypeId × Value → H} {w : World} {base : Nat} {spare : Nat → Bool} {held : Bool}
theorem int_cell {P : Program} {t : TypeId} {k : IntKind} (ht : P.underlying t = some (.int k)) (hc : P.cellsOf t = 1) {cs : List Value} {off m : Nat} {o : Option (DataW H × List MemPlace)} (h : DataW.trod enc0 P w base spare held m t ((cs.drop off).take (P.cellsOf t)) = o) (ho : o.isSome = true) :
    ∃ n, cs[off]? = some (.int k n) ∧ (Lit.int k n).wf = true := by
  obtain ⟨y, rfl⟩ := Option.isSome_iff_exists.1 ho
  obtain ⟨n, e, _, hw⟩ := DataW.trod_int ht h
  rw [hc] at e
  refine ⟨n, ?_, hw⟩
  have := congrArg List.head? e
  simpa [List.head?_take, List.head?_drop] using this
theorem some_at {α : Type} {xs : List α} {n i : Nat} (h : xs.length = n) (hi : i < n) : xs[i]?.isSome = true := by
  rw [List.getElem?_eq_getElem (by omega)]
  rfl
theorem cellsN : Try.prog.cellsOf 40 = 24 := by kernel_rfl
theorem cellsI : Try.prog.cellsOf 3 = 1 := by kernel_rfl
theorem cellsU : Try.prog.cellsOf 30 = 1 := by kernel_rfl
theorem cellsB : Try.prog.cellsOf 5 = 1 := by kernel_rfl
theorem cellsA : Try.prog.cellsOf 38 = 16 := by kernel_rfl
theorem bytesN : Try.prog.bytesOf 40 = 72 := by kernel_rfl
theorem node_of_trod {fuel : Nat} {cs : List Value} {x : DataW H × List MemPlace} (h : DataW.trod enc0 Try.prog w base spare held fuel 40 cs = some x) : ∃ nd : Node, cs = encL nd ∧ nd.bytes ∧ isU32 nd.n := by
  obtain ⟨xs, m, _, _, hl, hx, hf⟩ := DataW.trod_struct Try.underlying40 h
  rw [cellsN] at hl
  obtain ⟨v0, p0, w0⟩ := int_cell (off := 0) Try.underlying3 cellsI (hf 0 _ rfl) (some_at hx (by decide))
  obtain ⟨v1, p1, w1⟩ := int_cell (off := 1) Try.underlying3 cellsI (hf 1 _ rfl) (some_at hx (by decide))
  obtain ⟨v2, p2, w2⟩ := int_cell (off := 2) Try.underlying30 cellsU (hf 2 _ rfl) (some_at hx (by decide))
  obtain ⟨v3, p3, w3⟩ := int_cell (off := 3) Try.underlying30 cellsU (hf 3 _ rfl) (some_at hx (by decide))
  obtain ⟨v4, p4, w4⟩ := int_cell (off := 4) Try.underlying3 cellsI (hf 4 _ rfl) (some_at hx (by decide))
  obtain ⟨v5, p5, w5⟩ := int_cell (off := 5) Try.underlying3 cellsI (hf 5 _ rfl) (some_at hx (by decide))
  obtain ⟨v6, p6, w6⟩ := int_cell (off := 6) Try.underlying3 cellsI (hf 6 _ rfl) (some_at hx (by decide))
  have hx7 : DataW.trod enc0 Try.prog w base spare held m 38 ((cs.drop 7).take (Try.prog.cellsOf 38)) = xs[7]? := hf 7 _ rfl
  obtain ⟨y7, e7⟩ := Option.isSome_iff_exists.1 (some_at hx (i := 7) (by decide))
  rw [e7] at hx7
  obtain ⟨zs, m7, _, _, hl7, hz, hf7⟩ := DataW.trod_array Try.underlying38 hx7
  obtain ⟨b0, q0, wb0⟩ := int_cell Try.underlying5 cellsB (hf7 0 (by decide)) (some_at hz (by decide))
  obtain ⟨b1, q1, wb1⟩ := int_cell Try.underlying5 cellsB (hf7 1 (by decide)) (some_at hz (by decide))
  obtain ⟨b2, q2, wb2⟩ := int_cell Try.underlying5 cellsB (hf7 2 (by decide)) (some_at hz (by decide))
  obtain ⟨b3, q3, wb3⟩ := int_cell Try.underlying5 cellsB (hf7 3 (by decide)) (some_at hz (by decide))
  obtain ⟨b4, q4, wb4⟩ := int_cell Try.underlying5 cellsB (hf7 4 (by decide)) (some_at hz (by decide))
  obtain ⟨b5, q5, wb5⟩ := int_cell Try.underlying5 cellsB (hf7 5 (by decide)) (some_at hz (by decide))
  obtain ⟨b6, q6, wb6⟩ := int_cell Try.underlying5 cellsB (hf7 6 (by decide)) (some_at hz (by decide))
  obtain ⟨b7, q7, wb7⟩ := int_cell Try.underlying5 cellsB (hf7 7 (by decide)) (some_at hz (by decide))
  obtain ⟨b8, q8, wb8⟩ := int_cell Try.underlying5 cellsB (hf7 8 (by decide)) (some_at hz (by decide))
  obtain ⟨b9, q9, wb9⟩ := int_cell Try.underlying5 cellsB (hf7 9 (by decide)) (some_at hz (by decide))
  obtain ⟨b10, q10, wb10⟩ := int_cell Try.underlying5 cellsB (hf7 10 (by decide)) (some_at hz (by decide))
  obtain ⟨b11, q11, wb11⟩ := int_cell Try.underlying5 cellsB (hf7 11 (by decide)) (some_at hz (by decide))
  obtain ⟨b12, q12, wb12⟩ := int_cell Try.underlying5 cellsB (hf7 12 (by decide)) (some_at hz (by decide))
  obtain ⟨b13, q13, wb13⟩ := int_cell Try.underlying5 cellsB (hf7 13 (by decide)) (some_at hz (by decide))
  obtain ⟨b14, q14, wb14⟩ := int_cell Try.underlying5 cellsB (hf7 14 (by decide)) (some_at hz (by decide))
  obtain ⟨b15, q15, wb15⟩ := int_cell Try.underlying5 cellsB (hf7 15 (by decide)) (some_at hz (by decide))
  obtain ⟨v8, p8, w8⟩ := int_cell (off := 23) Try.underlying3 cellsI (hf 8 _ rfl) (some_at hx (by decide))
  clear hf hf7 hx7
  match cs, hl with
  | [c0, c1, c2, c3, c4, c5, c6, c7, c8, c9, c10, c11, c12, c13, c14, c15, c16, c17, c18, c19, c20, c21, c22, c23], _ =>
    rw [cellsA] at q0 q1 q2 q3 q4 q5 q6 q7 q8 q9 q10 q11 q12 q13 q14 q15
    simp [cellsB] at p0 p1 p2 p3 p4 p5 p6 p8 q0 q1 q2 q3 q4 q5 q6 q7 q8 q9 q10 q11 q12 q13 q14 q15
    subst p0 p1 p2 p3 p4 p5 p6 p8 q0 q1 q2 q3 q4 q5 q6 q7 q8 q9 q10 q11 q12 q13 q14 q15
    refine ⟨⟨v0, v1, v2, v3, v4, v5, v6, ⟨b0, b1, b2, b3, b4, b5, b6, b7, b8, b9, b10, b11, b12, b13, b14, b15⟩, v8⟩, rfl, ?_, ?_⟩
    · intro x hx
      simp only [A16.list, List.mem_cons, List.not_mem_nil, or_false] at hx
      rcases hx with rfl | rfl | rfl | rfl | rfl | rfl | rfl | rfl | rfl | rfl | rfl | rfl | rfl | rfl | rfl | rfl
      · exact bounds_u8 wb0
      · exact bounds_u8 wb1
      · exact bounds_u8 wb2
      · exact bounds_u8 wb3
      · exact bounds_u8 wb4
      · exact bounds_u8 wb5
      · exact bounds_u8 wb6
      · exact bounds_u8 wb7
      · exact bounds_u8 wb8
      · exact bounds_u8 wb9
      · exact bounds_u8 wb10
      · exact bounds_u8 wb11
      · exact bounds_u8 wb12
      · exact bounds_u8 wb13
      · exact bounds_u8 wb14
      · exact bounds_u8 wb15
    · exact bounds_u32 w2
/-- A []api.Node that came in. -/
theorem open_nodes {A : Option Addr} {len cap : Nat} {d : DataW H} {p : List MemPlace} (h : DataW.Trod enc0 Try.prog w base (fun _ => true) held 22 (.slice A len cap) d p) :
    ∃ ns : List Node, ns.length = len ∧ Ns w A ns ∧ (∀ n ∈ ns, n.bytes) ∧ (∀ n ∈ ns, isU32 n.n) ∧ len ≤ cap ∧ (A = none → cap = 0) ∧
      (d = .nil ∧ cap = 0 ∨ ∃ es rs, d = .slice es rs ∧ es.length + rs.length = cap) := by
  obtain ⟨fuel, hf⟩ := h
  rcases Deep.open_slice Try.underlying22 hf with ⟨e, ex⟩ | ⟨a, l, c, m, n, D, Pl, e, hb, hl, hc, hm, ex, hel⟩
  · simp [Value.cells] at e
    obtain ⟨rfl, rfl, rfl⟩ := e
    exact ⟨[], rfl, Ns.nil, (fun n hn => by cases hn), (fun n hn => by cases hn), Nat.le_refl _, fun _ => rfl, .inl ⟨congrArg Prod.fst ex, rfl⟩⟩
  · simp [Value.cells] at e
    obtain ⟨rfl, rfl, rfl⟩ := e
    simp only [if_true] at hm
    subst hm
    have hd : d = _ := congrArg Prod.fst ex
    rw [cellsN] at hel
    obtain ⟨N, hN⟩ := Deep.choose_lt (α := Node) (n := len) (p := fun i nd => w.cells? base (a.add (i * 24)) 24 = some (encL nd) ∧ nd.bytes ∧ isU32 nd.n) (fun i hi => by
      obtain ⟨cs, h1, h2⟩ := hel i (by omega)
      obtain ⟨nd, rfl, hbt, hu⟩ := node_of_trod h2
      exact ⟨nd, h1, hbt, hu⟩)
    have hg : ∀ i, i < len → ((List.range len).map N).getD i Node.zero = N i := fun i hi => by simp [List.getD, hi]
    refine ⟨(List.range len).map N, by simp, ?_, ?_, ?_, hl, (fun h => by cases h), .inr ⟨_, _, hd, by simp; omega⟩⟩
    · intro hp
      have hp : 0 < len := by simpa using hp
      obtain ⟨b, off, spot⟩ := a
      have h0 := World.cells?_some (hN 0 hp).1
      have hspot : spot = none := by
        have := h0.2.2 0 (by decide)
        simpa [Addr.add] using World.cell?_spot this
      subst hspot
      refine ⟨b, off, rfl, fun i hi => ?_⟩
      have hi : i < len := by simpa using hi
      rw [hg i hi]
      refine nodeAt_of fun j v hj => ?_
      obtain ⟨_, hlen, hc⟩ := World.cells?_some (hN i hi).1
      have hjl := (List.getElem?_eq_some_iff.1 hj).1
      have := hc j (by rw [encL_length] at hjl; exact hjl)
      rw [add_plain] at this
      rw [this, hj]
    · intro n hn
      obtain ⟨i, hi, rfl⟩ := List.mem_map.1 hn
      exact (hN i (by simpa using hi)).2.1
    · intro n hn
      obtain ⟨i, hi, rfl⟩ := List.mem_map.1 hn
      exact (hN i (by simpa using hi)).2.2
end
end Go.Proofs.Ytedhlofmkehfkaa
