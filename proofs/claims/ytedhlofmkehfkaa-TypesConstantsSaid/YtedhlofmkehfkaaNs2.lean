/- LendNodes, SameNodes. -/
import Derived.Test.YtedhlofmkehfkaaNs
import Derived.Deep.RegionHeld3
import Derived.Great.BuildSlice
namespace Go.Proofs.Ytedhlofmkehfkaa
open Go.RowKit Go.Shelf
set_option linter.unusedVariables false
set_option linter.unusedSimpArgs false

/-- The node that marks the room behind. -/
def Node.kn (k n : Int) : Node := { Node.zero with kind := k, n := n }
def Node.ko (k o : Int) : Node := { Node.zero with kind := k, op := o }
def Node.kf (k f : Int) : Node := { Node.zero with kind := k, of := f }
def Node.k0 (k : Int) : Node := { Node.zero with kind := k }
abbrev mark : Node := Node.kn 77 7
/-- A node, a row of nodes, built: names that the walk doesn't open. -/
def buildNode (parts : Array (Nat × Value)) : Sem Value := Instr.build 40 parts
def buildNodes (len : Nat) (parts : Array (Nat × Value)) : Sem Value := Instr.buildSlice 22 len parts
@[go_sem ↓] theorem execOp_build_node (ρ : Operand → Value) (dst : Option Tmp) (parts : Array (Nat × Operand)) (ty : TypeId) (pos : String) (after : Array Edge) (guard : Option (Nat × Bool)) :
    execOp ρ { dst, op := .build 40 parts, type := ty, pos, after, guard } = (do pure (.value (← buildNode (parts.map fun (i, x) => (i, ρ x))))) := rfl
@[go_sem ↓] theorem execOp_build_nodes (ρ : Operand → Value) (dst : Option Tmp) (len : Nat) (parts : Array (Nat × Operand)) (ty : TypeId) (pos : String) (after : Array Edge) (guard : Option (Nat × Bool)) :
    execOp ρ { dst, op := .buildSlice 22 (len + 1) parts, type := ty, pos, after, guard } = (do pure (.value (← buildNodes (len + 1) (parts.map fun (i, x) => (i, ρ x))))) := rfl
section
variable (w : World)
@[go_sem] theorem run_buildNode_kn (k n : Int) : (buildNode #[(0, .int .i64 k), (2, .int .u32 n)]).run Try.prog w = .ok (.agg (enc (Node.kn k n))) w := run_build w _ _ _ rfl
@[go_sem] theorem run_buildNode_k (k : Int) : (buildNode #[(0, .int .i64 k)]).run Try.prog w = .ok (.agg (enc (Node.k0 k))) w := run_build w _ _ _ rfl
@[go_sem] theorem run_buildNode_ko (k n : Int) : (buildNode #[(0, .int .i64 k), (1, .int .i64 n)]).run Try.prog w = .ok (.agg (enc (Node.ko k n))) w := run_build w _ _ _ rfl
@[go_sem] theorem run_buildNode_kf (k n : Int) : (buildNode #[(0, .int .i64 k), (5, .int .i64 n)]).run Try.prog w = .ok (.agg (enc (Node.kf k n))) w := run_build w _ _ _ rfl
@[go_sem] theorem run_buildNode_0 : (buildNode #[]).run Try.prog w = .ok (.agg (enc Node.zero)) w := run_build w _ _ _ rfl
theorem run_buildNodes (l : List Node) (h0 : 0 < l.length) (h1 : l.length ≤ 1000) :
    (buildNodes l.length (((l.map fun n => Value.agg (enc n)).zipIdx 0).map fun x => (x.2, x.1)).toArray).run Try.prog w = .ok (.slice (some ⟨w.heap.size, 0, none⟩) l.length l.length) (w.alloc (.cells (flat l).toArray 40)) := by
  obtain ⟨i0, hi0, hz0, hz1, hz2⟩ := info_parts nodeInfos
  refine run_buildSlice w _ _ _ _ _ i0 _ Try.underlying22 hi0 hz0 (by rw [hz1]; omega) (by rw [hz1]; omega) ?_
  rw [hz1]
  have := Great.fill_whole (s := 24) (by omega) (l.map fun n => Value.agg (enc n)) ((Array.range (l.length * 24)).map ((Value.agg (enc Node.zero)).cells[· % (Value.agg (enc Node.zero)).cells.size]!)) (by
    intro v hv
    obtain ⟨n, _, rfl⟩ := List.mem_map.1 hv
    exact enc_size n) (by simp)
  rw [this]
  congr 2
  rw [List.flatMap_map]
  rfl
@[go_sem] theorem run_buildNodes1 (x : Node) : (buildNodes 1 #[(0, .agg (enc x))]).run Try.prog w = .ok (.slice (some ⟨w.heap.size, 0, none⟩) 1 1) (w.alloc (.cells (flat [x]).toArray 40)) := run_buildNodes w [x] (by simp) (by simp)
@[go_sem] theorem run_buildNodes2 (x y : Node) : (buildNodes 2 #[(0, .agg (enc x)), (1, .agg (enc y))]).run Try.prog w = .ok (.slice (some ⟨w.heap.size, 0, none⟩) 2 2) (w.alloc (.cells (flat [x, y]).toArray 40)) := run_buildNodes w [x, y] (by simp) (by simp)
@[go_sem] theorem run_buildNodes3 (x y z : Node) : (buildNodes 3 #[(0, .agg (enc x)), (1, .agg (enc y)), (2, .agg (enc z))]).run Try.prog w = .ok (.slice (some ⟨w.heap.size, 0, none⟩) 3 3) (w.alloc (.cells (flat [x, y, z]).toArray 40)) := run_buildNodes w [x, y, z] (by simp) (by simp)
@[go_sem] theorem run_buildNodes4 (x y z u : Node) : (buildNodes 4 #[(0, .agg (enc x)), (1, .agg (enc y)), (2, .agg (enc z)), (3, .agg (enc u))]).run Try.prog w = .ok (.slice (some ⟨w.heap.size, 0, none⟩) 4 4) (w.alloc (.cells (flat [x, y, z, u]).toArray 40)) := run_buildNodes w [x, y, z, u] (by simp) (by simp)
end
/-- The cells of a row that lies whole in its block. -/
theorem flat_news {w : World} {b : Nat} {l : List Node} {t : TypeId} {fr : Nat × Nat} (h : w.heap[b]? = some (.cells (flat l).toArray t fr)) : ∀ j u, (flat l)[j]? = some u → w.cell? ((⟨b, 0, none⟩ : Addr).add j) = some u := fun j u hu => by
  rw [add_plain, Nat.zero_add, cell_of_row w b j _ t fr h]
  simpa using hu
theorem own_cap {w : World} {base sz n m cap : Nat} {A : Option Addr} {e : TypeId} {xs : List Value} (h : w.ownsRow base e sz (.slice A m cap) n xs) : n ≤ cap := by
  rcases h.2 with ⟨h, h0⟩ | ⟨g, c, cur, h1, h2, h3, h4, _⟩
  · cases h; omega
  · cases h1; exact h4
set_option maxRecDepth 100000 in
theorem lend_any (A : Option Addr) (c : Nat) (ns : List Node) (w : World) (hA : Ns w A ns) (hl : ns.length ≤ 1954687338260) (hnil : A = none → c = 0) :
    Calls Try.prog 12 #[.slice A ns.length c] w fun e w' => ∃ g c2, e = .returned (.slice (some ⟨g, 0, none⟩) ns.length c2) ∧ OwnN w' w.heap.size (.slice (some ⟨g, 0, none⟩) (ns.length + 3) c2) (ns ++ [mark, mark, mark]) ∧ Below w.heap.size w w' := by
  obtain ⟨i0, hi0, hz0, hz1, hz2⟩ := info_parts nodeInfos
  have Hz0 := Lib.hid hz0
  have Hz1 := Lib.hid hz1
  have Hz2 := Lib.hid hz2
  have HA := Lib.hid hA
  clear hz0 hz1 hz2 hA
  go_enter Try.func12, Try.ntmps12
  go_wp2_with fail
  refine (copy_any A c ns _ HA.out hl hnil).mono ?_
  rintro e w1 ⟨g, c2, rfl, hown, hB⟩
  have HO := Lib.hid hown
  have HB := Lib.hid hB
  clear hown hB
  have hx : ((w1.alloc (.cells (flat [mark, mark, mark]).toArray 40)).heap[w1.heap.size]? = some (.cells (flat [mark, mark, mark]).toArray 40 (0, 0))) := heap_alloc_new w1 _
  have Hx := Lib.hid (flat_news hx)
  clear hx
  have HO2 := Lib.hid (show (w1.alloc (.cells (flat [mark, mark, mark]).toArray 40)).ownsRow w.heap.size 40 24 (.slice (some ⟨g, 0, none⟩) ns.length c2) ns.length (flat ns) from own_later HO.out fun b hb => Below.heap_alloc _ _ _ (own_lt HO.out hb).2)
  have HS := Lib.hid HB.out.size
  go_wp2_with (at_builtin; refine wpList_append_lies _ rfl _ _ 22 rfl w.heap.size 40 i0 (.agg (enc Node.zero)) 24 72 Try.underlying22 hi0 Hz0.out Hz1.out Hz2.out rfl (by decide) (.slice (some ⟨g, 0, none⟩) ns.length c2) ns.length (flat ns) rfl HO2.out ⟨w1.heap.size, 0, none⟩ 3 3 (flat [mark, mark, mark]) rfl rfl Hx.out (flat_one _) (by decide) (by simp only [maxLen]; omega) (by omega) (by have := HS.out; simp; omega) (w1.heap.size + 1) (by simp) ?_; intro g2 cap w2 hown hgrow hat hlt; have hcap : (ns.length : Int) ≤ (cap : Int) := by have := own_cap hown; omega)
  go_ret
  refine ⟨g2, cap, rfl, ?_, (HB.out.alloc HS.out _).grown hgrow (by have := HS.out; simp; omega) (fun k e => (own_lt HO.out e).1)⟩
  simpa [OwnN, flat_append] using hown
theorem take_succ_node {xs : List Node} {i : Nat} (h : i < xs.length) : xs.take (i + 1) = xs.take i ++ [xs.getD i Node.zero] := by
  rw [List.take_add_one, List.getElem?_eq_getElem h, List.getD_eq_getElem?_getD, List.getElem?_eq_getElem h]
  rfl
set_option maxHeartbeats 1000000 in
theorem same_any (A B : Option Addr) (c d : Nat) (xs ys : List Node) (w : World) (hA : Ns w A xs) (hB : Ns w B ys) (hl : xs.length ≤ 2000000000000) (hl2 : ys.length ≤ 2000000000000) :
    Calls Try.prog 23 #[.slice A xs.length c, .slice B ys.length d] w fun e w' => e = .returned (.bool (decide (xs = ys))) ∧ Below w.heap.size w w' := by
  by_cases hlen : xs.length = ys.length
  · have HA := Lib.hid hA
    have HB := Lib.hid hB
    have Hlen := Lib.hid hlen
    clear hA hB
    rw [← hlen]
    clear hlen
    go_enter Try.func23, Try.ntmps23
    go_wp2_with fail
    go_loopw [5] (fun x wr => ∃ i : Nat, i ≤ xs.length ∧ x = .int .i64 i ∧ xs.take i = ys.take i ∧ Below w.heap.size w wr) (fun x _ => xs.length - (intOf x).toNat)
    case atStart => exact ⟨0, by omega, rfl, rfl, Below.refl _ _⟩
    case round =>
      obtain ⟨i, hi, rfl, htake, hBB⟩ := hrel
      have Htake := Lib.hid htake
      have HBB := Lib.hid hBB
      clear htake hBB
      by_cases hlt : i < xs.length
      · obtain ⟨b, o, rfl, hn⟩ := HA.out (by omega)
        obtain ⟨b2, o2, rfl, hn2⟩ := HB.out (by rw [← Hlen.out]; omega)
        have h1 := nodeAt_later HBB.out (hn i hlt)
        have h2 := nodeAt_later HBB.out (hn2 i (by rw [← Hlen.out]; omega))
        obtain ⟨x, hx⟩ : ∃ x, xs.getD i Node.zero = x := ⟨_, rfl⟩
        obtain ⟨y, hy⟩ : ∃ y, ys.getD i Node.zero = y := ⟨_, rfl⟩
        rw [hx] at h1
        rw [hy] at h2
        have Hx := Lib.hid hx
        have Hy := Lib.hid hy
        have hi0 : (0 : Int) ≤ (i : Int) := by omega
        have hi1 : (i : Int) < (xs.length : Int) := by omega
        clear hn hn2 hx hy
        go_wp2_with fail
        go_region_held3 (fun w' => nodeAt w' ⟨b, o + i * 24, none⟩ = some x ∧ nodeAt w' ⟨b2, o2 + i * 24, none⟩ = some y ∧ w' = wr.drew) (first | exact ⟨h1, h2, rfl⟩ | assumption) (fail)
        cases hd : decide (x = y) with
        | true =>
          have hxy : x = y := by simpa using hd
          go_wp2_with fail
          go_round
          case rel => exact ⟨i + 1, by omega, by go_num, by rw [take_succ_node hlt, take_succ_node (by rw [← Hlen.out]; exact hlt), Htake.out, Hx.out, Hy.out, hxy], HBB.out.drew⟩
          case measure => simp [intOf]; omega
        | false =>
          have hxy : x ≠ y := by simpa using hd
          go_wp2_with fail
          go_ret
          refine ⟨?_, HBB.out.drew⟩
          have hne : xs ≠ ys := fun h => hxy (by rw [← Hx.out, ← Hy.out, h])
          simp [hne]
      · have hie : i = xs.length := by omega
        have heq : xs = ys := by
          have h := Htake.out
          rw [List.take_of_length_le (by omega), List.take_of_length_le (by rw [← Hlen.out]; omega)] at h
          exact h
        go_wp2
        go_ret
        exact ⟨by simp [heq], HBB.out⟩
  · have hne : ¬ xs = ys := fun h => hlen (by rw [h])
    have hb : ((xs.length : Int) == (ys.length : Int)) = false := by simp; omega
    have hb2 : ¬ ((xs.length : Int) = (ys.length : Int)) := by omega
    clear hA hB
    go_enter Try.func23, Try.ntmps23
    go_wp2
    go_ret
    exact ⟨by simp [hne], Below.refl _ _⟩
end Go.Proofs.Ytedhlofmkehfkaa
