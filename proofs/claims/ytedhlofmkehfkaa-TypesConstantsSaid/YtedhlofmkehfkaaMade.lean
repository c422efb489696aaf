/- Package types: Reckon, made. -/
import Derived.Test.YtedhlofmkehfkaaTab
import Derived.Test.YtedhlofmkehfkaaTree
import Derived.RegionTactic
import Derived.BigRegion
namespace Go.Proofs.Ytedhlofmkehfkaa
open Go.RowKit
set_option linter.unusedVariables false
set_option linter.unusedSimpArgs false

/-- A tree that was gone through. -/
structure Part where
  (truth constant : Bool)
  value : Int
  deriving DecidableEq
def Part.zero : Part := ⟨false, false, 0⟩
def partL (p : Part) : List Value := [.bool p.truth, .bool p.constant, .int .u32 p.value]
/-- What an operation makes of two words. -/
def reckon (op x y : Int) : Int :=
  if op = 1 then (x + y) % 4294967296 else if op = 2 then (x - y) % 4294967296 else if op = 3 then (x * y) % 4294967296 else if op = 4 then x / y else if op = 5 then x % y
  else if op = 6 then Go.bits .and .u32 x y else if op = 7 then Go.bits .or .u32 x y else if op = 8 then Go.bits .xor .u32 x y
  else if op = 9 then x * 2 ^ min y.toNat 32 % 4294967296 else x / 2 ^ min y.toNat 32
def isU32 (x : Int) : Prop := 0 ≤ x ∧ x ≤ 4294967295
theorem reckon_any (op x y : Int) (hx : isU32 x) (hy : isU32 y) (hz : op = 4 ∨ op = 5 → y ≠ 0) (w : World) :
    Calls Try.prog 89 #[.int .i64 op, .int .u32 x, .int .u32 y] w fun e w' => e = .returned (.int .u32 (reckon op x y)) ∧ w = w' := by
  obtain ⟨hx0, hx1⟩ := hx
  obtain ⟨hy0, hy1⟩ := hy
  by_cases h4 : op = 4
  · subst h4
    have hy : y ≠ 0 := hz (.inl rfl)
    have hyp : 1 ≤ y := by omega
    clear hz
    go_enter Try.func89, Try.ntmps89
    go_wp2
    go_ret
    exact ⟨by simp [reckon], rfl⟩
  by_cases h5 : op = 5
  · subst h5
    have hy : y ≠ 0 := hz (.inr rfl)
    have hyp : 1 ≤ y := by omega
    clear hz
    go_enter Try.func89, Try.ntmps89
    go_wp2
    go_ret
    exact ⟨by simp [reckon], rfl⟩
  clear hz
  have hb4 : (op == 4) = false := by simpa using h4
  have hb5 : (op == 5) = false := by simpa using h5
  clear h4 h5
  go_enter Try.func89, Try.ntmps89
  go_wp2
  all_goals
    go_ret
    refine ⟨?_, rfl⟩
    simp only [beq_iff_eq, beq_eq_false_iff_ne, ne_eq] at *
    simp [reckon, *]
/-- What a node makes of its parts. -/
def kidsBad (wants : Bool) (kids : List Part) : Bool := kids.any fun p => p.truth != wants
def madeL (n : Node) (truth wants : Bool) (kids : List Part) : Part × Int :=
  if kidsBad wants kids then (Part.zero, if wants then 121 else 122)
  else if n.kind = 1 then (⟨truth, true, n.n⟩, 0)
  else if n.kind = 5 then (⟨truth, (kids.getD 0 Part.zero).constant, -(kids.getD 0 Part.zero).value % 4294967296⟩, 0)
  else if n.kind = 4 then
    (if (n.op = 4 ∨ n.op = 5) ∧ (kids.getD 1 Part.zero).constant = true ∧ (kids.getD 1 Part.zero).value = 0 then (⟨truth, false, 0⟩, 123)
     else if (kids.getD 0 Part.zero).constant = true ∧ (kids.getD 1 Part.zero).constant = true then (⟨truth, true, reckon n.op (kids.getD 0 Part.zero).value (kids.getD 1 Part.zero).value⟩, 0)
     else (⟨truth, false, 0⟩, 0))
  else (⟨truth, false, 0⟩, 0)
/-- The parts that a node is given lie in a row. -/
def KidsAt (w : World) (kb : Nat) (kids : List Part) : Prop := ∀ i, i < kids.length → ∀ j u, (partL (kids.getD i Part.zero))[j]? = some u → w.cell? ⟨kb, i * 3 + j, none⟩ = some u
theorem KidsAt.later {w W : World} {kb : Nat} {kids : List Part} (h : KidsAt w kb kids) (hb : Below w.heap.size w W) : KidsAt W kb kids :=
  fun i hi j u hu => (hb.cell (World.block_lt_of_cell? w _ (h i hi j u hu))).trans (h i hi j u hu)
theorem kidsBad_take {wants : Bool} {kids : List Part} {i : Nat} (h : i < kids.length) : kidsBad wants (kids.take (i + 1)) = (kidsBad wants (kids.take i) || ((kids.getD i Part.zero).truth != wants)) := by
  unfold kidsBad
  rw [List.take_succ_eq_append_getElem h, List.any_append]
  simp [List.getD_eq_getElem?_getD, List.getElem?_eq_getElem h]
theorem kidsBad_of {wants : Bool} {kids : List Part} {i : Nat} (h : i < kids.length) (hb : (kids.getD i Part.zero).truth ≠ wants) : kidsBad wants kids = true := by
  unfold kidsBad
  rw [List.any_eq_true]
  refine ⟨kids[i], List.getElem_mem h, ?_⟩
  simp [List.getD_eq_getElem?_getD, List.getElem?_eq_getElem h] at hb
  simpa using hb
/-- What stays during a call of made: its node, its row, its own result's variable. -/
structure MadeAt (w0 : World) (b : Nat) (n : Node) (truth wants : Bool) (u f g : Value) (w : World) : Prop where
  node : nodeAt w ⟨b, 0, none⟩ = some n
  kind : w.cell? ⟨b, 0, none⟩ = some (.int .i64 n.kind)
  row0 : w.cell? ⟨b + 1, 0, none⟩ = some (.bool truth)
  row1 : w.cell? ⟨b + 1, 1, none⟩ = some (.bool wants)
  res : w.heap[b + 1 + 1]? = some (.cells #[.bool false, .bool false, .int .u32 0] 55 (0, 0))
  base : w0.heap.size = b
  size : b + 2 < w.heap.size
  below : Below b w0 w
theorem MadeAt.later {w0 w W : World} {b : Nat} {n : Node} {truth wants : Bool} {u f g : Value} (h : MadeAt w0 b n truth wants u f g w) (hb : Below w.heap.size w W) : MadeAt w0 b n truth wants u f g W :=
  ⟨nodeAt_later hb h.node, (hb.cell (World.block_lt_of_cell? w _ h.kind)).trans h.kind, (hb.cell (World.block_lt_of_cell? w _ h.row0)).trans h.row0, (hb.cell (World.block_lt_of_cell? w _ h.row1)).trans h.row1,
    (hb.block _ h.size).trans h.res, h.base, Nat.lt_of_lt_of_le h.size hb.size, h.below.trans (hb.mono (by have := h.size; omega))⟩
theorem made_start (w : World) (n : Node) (truth wants : Bool) (u f g : Value) :
    MadeAt w w.heap.size n truth wants u f g (((w.alloc (.cells (enc n) 40)).alloc (.cells #[.bool truth, .bool wants, u, f, g] 64)).alloc (.cells #[.bool false, .bool false, .int .u32 0] 55)) := by
  have s1 : (w.alloc (.cells (enc n) 40)).heap.size = w.heap.size + 1 := by simp
  have s2 : ((w.alloc (.cells (enc n) 40)).alloc (.cells #[.bool truth, .bool wants, u, f, g] 64)).heap.size = w.heap.size + 2 := by simp
  have B0 : Below w.heap.size w (w.alloc (.cells (enc n) 40)) := (Below.refl _ _).alloc (Nat.le_refl _) _
  have B1 : Below w.heap.size w ((w.alloc (.cells (enc n) 40)).alloc (.cells #[.bool truth, .bool wants, u, f, g] 64)) := B0.alloc (by omega) _
  refine ⟨?_, ?_, ?_, ?_, ?_, rfl, by simp, B1.alloc (by omega) _⟩
  · rw [nodeAt_alloc _ (by simp; omega), nodeAt_alloc _ (by simp)]; exact nodeAt_new w n _
  · simp [go_sem]
  · simp [go_sem]
  · simp [go_sem]
  · have := heap_alloc_new ((w.alloc (.cells (enc n) 40)).alloc (.cells #[.bool truth, .bool wants, u, f, g] 64)) (.cells #[.bool false, .bool false, .int .u32 0] 55)
    rwa [s2] at this
set_option maxHeartbeats 2000000 in
theorem made_false_1 (n : Node) (truth : Bool) (u f g : Value) (A : Option Addr) (c kb : Nat) (kids : List Part) (w : World) (hA : 0 < kids.length → A = some ⟨kb, 0, none⟩) (hk : KidsAt w kb kids) (hu : u.oneCell' = true) (hf : f.oneCell' = true) (hg : g.oneCell' = true)
    (hm : kids.length ≤ 2) (hku : ∀ p ∈ kids, isU32 p.value) (qk : n.kind = 1) (h5 : n.kind = 5 → 1 ≤ kids.length) (h4 : n.kind = 4 → 2 ≤ kids.length) :
    Calls Try.prog 77 #[.agg (enc n), .agg #[.bool truth, .bool false, u, f, g], .slice A kids.length c] w fun e w' =>
      e = .returned (.tuple #[.agg #[.bool (madeL n truth false kids).1.truth, .bool (madeL n truth false kids).1.constant, .int .u32 (madeL n truth false kids).1.value], .int .i64 (madeL n truth false kids).2]) ∧ Below w.heap.size w w' := by
  have M0 := made_start w n truth false u f g
  obtain ⟨b, hb⟩ : ∃ b, w.heap.size = b := ⟨_, rfl⟩
  have HM := Lib.hid M0
  clear M0
  go_enter Try.func77, Try.ntmps77
  go_wp2
  go_loopw [15] (fun x wr => ∃ i : Nat, i ≤ kids.length ∧ x = .int .i64 i ∧ kidsBad false (kids.take i) = false ∧ MadeAt w b n truth false u f g wr ∧ KidsAt wr kb kids) (fun x _ => kids.length - (intOf x).toNat)
  case atStart => exact ⟨0, by omega, rfl, rfl, hb ▸ HM.out, hk.later (hb ▸ HM.out.below)⟩
  case round =>
    obtain ⟨i, hi, rfl, hbad, hM, hK⟩ := hrel
    by_cases hlt : i < kids.length
    · obtain rfl := hA (by omega)
      have hkb := kidsBad_take (wants := false) hlt
      rw [hbad] at hkb
      have hko := fun h => kidsBad_of (wants := false) hlt h
      obtain ⟨p, hp⟩ : ∃ p, kids.getD i Part.zero = p := ⟨_, rfl⟩
      have c0 := hK i hlt 0 _ rfl
      have c1 := hK i hlt 1 _ rfl
      have c2 := hK i hlt 2 _ rfl
      rw [hp, Nat.add_zero] at c0
      rw [hp] at c1 c2 hkb hko
      have r1 := hM.row1
      have r1s := World.block_lt_of_cell? wr _ r1
      have k0 : wr.cell? ⟨b + 1 + 1, 0, none⟩ = some (.bool false) := cell_of_row wr _ 0 _ _ _ hM.res
      have k1 : wr.cell? ⟨b + 1 + 1, 1, none⟩ = some (.bool false) := cell_of_row wr _ 1 _ _ _ hM.res
      have k2 : wr.cell? ⟨b + 1 + 1, 2, none⟩ = some (.int .u32 0) := cell_of_row wr _ 2 _ _ _ hM.res
      have f0 := frozen_of_row wr (b + 1 + 1) 0 _ _ hM.res
      have f1 := frozen_of_row wr (b + 1 + 1) 1 _ _ hM.res
      have f2 := frozen_of_row wr (b + 1 + 1) 2 _ _ hM.res
      have ks : b + 1 + 1 < wr.heap.size := hM.size
      have HM2 := Lib.hid hM
      have HK2 := Lib.hid hK
      have Hkb := Lib.hid hkb
      have Hko := Lib.hid hko
      have Hb := Lib.hid hb
      clear hM hK hp hbad hkb hko HM hk hA h4 h5 hb
      obtain ⟨pt, pc, pv⟩ := p
      cases pt
      case false =>
        go_wp2
        go_roundw
        case rel => exact ⟨i + 1, by omega, by go_num, by rw [Hkb.out]; rfl, HM2.out.later ((Below.refl _ _).alloc (Nat.le_refl _) _), HK2.out.later ((Below.refl _ _).alloc (Nat.le_refl _) _)⟩
        case measure => simp [intOf]; omega
      case true =>
        have hres : Hid (madeL n truth false kids = (Part.zero, 122)) := by
          show _ = _
          rw [madeL, if_pos (Hko.out (by simp))]
          rfl
        go_wp2
        refine bodyPost_ret (v := .tuple #[.agg #[.bool false, .bool false, .int .u32 0], .int .i64 122]) (by simp [results, Try.results77, go_sem, *]) rfl ⟨by rw [hres.out]; rfl, ?_⟩
        have hB := HM2.out.below
        rw [Hb.out]
        repeat (first | exact hB | refine Below.setCell ?_ ?_ _ | refine Below.drew ?_ | refine Below.alloc ?_ ?_ _)
        all_goals first | omega | (simp; omega)
    · have hin : i = kids.length := by omega
      have hall : kidsBad false kids = false := by rw [hin, List.take_of_length_le (Nat.le_refl _)] at hbad; exact hbad
      have n0 := hM.kind
      have n0s := World.block_lt_of_cell? wr _ n0
      have nN := hM.node
      have r0 := hM.row0
      have r0s := World.block_lt_of_cell? wr _ r0
      have k0 : wr.cell? ⟨b + 1 + 1, 0, none⟩ = some (.bool false) := cell_of_row wr _ 0 _ _ _ hM.res
      have k1 : wr.cell? ⟨b + 1 + 1, 1, none⟩ = some (.bool false) := cell_of_row wr _ 1 _ _ _ hM.res
      have k2 : wr.cell? ⟨b + 1 + 1, 2, none⟩ = some (.int .u32 0) := cell_of_row wr _ 2 _ _ _ hM.res
      have f0 := frozen_of_row wr (b + 1 + 1) 0 _ _ hM.res
      have f1 := frozen_of_row wr (b + 1 + 1) 1 _ _ hM.res
      have f2 := frozen_of_row wr (b + 1 + 1) 2 _ _ hM.res
      have ks : b + 1 + 1 < wr.heap.size := hM.size
      have HM2 := Lib.hid hM
      have Hb := Lib.hid hb
      have Hall := Lib.hid hall
      have q1 : n.kind = 1 := qk
      have nN2 : wr.cell? ⟨b, 2, none⟩ = some (.int .u32 n.n) := by
        have := nodeIn_of nN 2 _ rfl
        rwa [add_plain] at this
      have qb : (n.kind == 1) = true := by simpa using q1
      have hres : Hid (madeL n truth false kids = (⟨truth, true, n.n⟩, 0)) := by
        show _ = _
        rw [madeL, Hall.out, if_neg (by simp), if_pos q1]
      clear hM hK hbad HM hk hA h4 h5 hb hall hin q1
      go_wp2
      go_region
      go_wp2
      refine bodyPost_ret (v := .tuple #[.agg #[.bool truth, .bool true, .int .u32 n.n], .int .i64 0]) (by simp [results, Try.results77, go_sem, *]) rfl ⟨by rw [hres.out], ?_⟩
      have hB := HM2.out.below
      rw [Hb.out]
      repeat (first | exact hB | refine Below.setCell ?_ ?_ _ | refine Below.drew ?_ | refine Below.alloc ?_ ?_ _)
      all_goals first | omega | (simp; omega)
set_option maxHeartbeats 2000000 in
theorem made_false_5 (n : Node) (truth : Bool) (u f g : Value) (A : Option Addr) (c kb : Nat) (kids : List Part) (w : World) (hA : 0 < kids.length → A = some ⟨kb, 0, none⟩) (hk : KidsAt w kb kids) (hu : u.oneCell' = true) (hf : f.oneCell' = true) (hg : g.oneCell' = true)
    (hm : kids.length ≤ 2) (hku : ∀ p ∈ kids, isU32 p.value) (qk : n.kind = 5) (h5 : n.kind = 5 → 1 ≤ kids.length) (h4 : n.kind = 4 → 2 ≤ kids.length) :
    Calls Try.prog 77 #[.agg (enc n), .agg #[.bool truth, .bool false, u, f, g], .slice A kids.length c] w fun e w' =>
      e = .returned (.tuple #[.agg #[.bool (madeL n truth false kids).1.truth, .bool (madeL n truth false kids).1.constant, .int .u32 (madeL n truth false kids).1.value], .int .i64 (madeL n truth false kids).2]) ∧ Below w.heap.size w w' := by
  have M0 := made_start w n truth false u f g
  obtain ⟨b, hb⟩ : ∃ b, w.heap.size = b := ⟨_, rfl⟩
  have HM := Lib.hid M0
  clear M0
  go_enter Try.func77, Try.ntmps77
  go_wp2
  go_loopw [15] (fun x wr => ∃ i : Nat, i ≤ kids.length ∧ x = .int .i64 i ∧ kidsBad false (kids.take i) = false ∧ MadeAt w b n truth false u f g wr ∧ KidsAt wr kb kids) (fun x _ => kids.length - (intOf x).toNat)
  case atStart => exact ⟨0, by omega, rfl, rfl, hb ▸ HM.out, hk.later (hb ▸ HM.out.below)⟩
  case round =>
    obtain ⟨i, hi, rfl, hbad, hM, hK⟩ := hrel
    by_cases hlt : i < kids.length
    · obtain rfl := hA (by omega)
      have hkb := kidsBad_take (wants := false) hlt
      rw [hbad] at hkb
      have hko := fun h => kidsBad_of (wants := false) hlt h
      obtain ⟨p, hp⟩ : ∃ p, kids.getD i Part.zero = p := ⟨_, rfl⟩
      have c0 := hK i hlt 0 _ rfl
      have c1 := hK i hlt 1 _ rfl
      have c2 := hK i hlt 2 _ rfl
      rw [hp, Nat.add_zero] at c0
      rw [hp] at c1 c2 hkb hko
      have r1 := hM.row1
      have r1s := World.block_lt_of_cell? wr _ r1
      have k0 : wr.cell? ⟨b + 1 + 1, 0, none⟩ = some (.bool false) := cell_of_row wr _ 0 _ _ _ hM.res
      have k1 : wr.cell? ⟨b + 1 + 1, 1, none⟩ = some (.bool false) := cell_of_row wr _ 1 _ _ _ hM.res
      have k2 : wr.cell? ⟨b + 1 + 1, 2, none⟩ = some (.int .u32 0) := cell_of_row wr _ 2 _ _ _ hM.res
      have f0 := frozen_of_row wr (b + 1 + 1) 0 _ _ hM.res
      have f1 := frozen_of_row wr (b + 1 + 1) 1 _ _ hM.res
      have f2 := frozen_of_row wr (b + 1 + 1) 2 _ _ hM.res
      have ks : b + 1 + 1 < wr.heap.size := hM.size
      have HM2 := Lib.hid hM
      have HK2 := Lib.hid hK
      have Hkb := Lib.hid hkb
      have Hko := Lib.hid hko
      have Hb := Lib.hid hb
      clear hM hK hp hbad hkb hko HM hk hA h4 h5 hb
      obtain ⟨pt, pc, pv⟩ := p
      cases pt
      case false =>
        go_wp2
        go_roundw
        case rel => exact ⟨i + 1, by omega, by go_num, by rw [Hkb.out]; rfl, HM2.out.later ((Below.refl _ _).alloc (Nat.le_refl _) _), HK2.out.later ((Below.refl _ _).alloc (Nat.le_refl _) _)⟩
        case measure => simp [intOf]; omega
      case true =>
        have hres : Hid (madeL n truth false kids = (Part.zero, 122)) := by
          show _ = _
          rw [madeL, if_pos (Hko.out (by simp))]
          rfl
        go_wp2
        refine bodyPost_ret (v := .tuple #[.agg #[.bool false, .bool false, .int .u32 0], .int .i64 122]) (by simp [results, Try.results77, go_sem, *]) rfl ⟨by rw [hres.out]; rfl, ?_⟩
        have hB := HM2.out.below
        rw [Hb.out]
        repeat (first | exact hB | refine Below.setCell ?_ ?_ _ | refine Below.drew ?_ | refine Below.alloc ?_ ?_ _)
        all_goals first | omega | (simp; omega)
    · have hin : i = kids.length := by omega
      have hall : kidsBad false kids = false := by rw [hin, List.take_of_length_le (Nat.le_refl _)] at hbad; exact hbad
      have n0 := hM.kind
      have n0s := World.block_lt_of_cell? wr _ n0
      have nN := hM.node
      have r0 := hM.row0
      have r0s := World.block_lt_of_cell? wr _ r0
      have k0 : wr.cell? ⟨b + 1 + 1, 0, none⟩ = some (.bool false) := cell_of_row wr _ 0 _ _ _ hM.res
      have k1 : wr.cell? ⟨b + 1 + 1, 1, none⟩ = some (.bool false) := cell_of_row wr _ 1 _ _ _ hM.res
      have k2 : wr.cell? ⟨b + 1 + 1, 2, none⟩ = some (.int .u32 0) := cell_of_row wr _ 2 _ _ _ hM.res
      have f0 := frozen_of_row wr (b + 1 + 1) 0 _ _ hM.res
      have f1 := frozen_of_row wr (b + 1 + 1) 1 _ _ hM.res
      have f2 := frozen_of_row wr (b + 1 + 1) 2 _ _ hM.res
      have ks : b + 1 + 1 < wr.heap.size := hM.size
      have HM2 := Lib.hid hM
      have Hb := Lib.hid hb
      have Hall := Lib.hid hall
      have q5 : n.kind = 5 := qk
      have q1 : ¬ n.kind = 1 := by omega
      have qb1 : (n.kind == 1) = false := by simp; omega
      have hl1 := h5 q5
      obtain rfl := hA (by omega)
      obtain ⟨⟨xt, xc, xv⟩, hx⟩ : ∃ p, kids.getD 0 Part.zero = p := ⟨_, rfl⟩
      have c1 : wr.cell? ⟨kb, 1, none⟩ = some (.bool xc) := hK 0 (by omega) 1 _ (by rw [hx]; rfl)
      have c2 : wr.cell? ⟨kb, 2, none⟩ = some (.int .u32 xv) := hK 0 (by omega) 2 _ (by rw [hx]; rfl)
      have cs := World.block_lt_of_cell? wr _ c1
      have qb : (n.kind == 5) = true := by simpa using q5
      have hres : Hid (madeL n truth false kids = (⟨truth, xc, -xv % 4294967296⟩, 0)) := by
        show _ = _
        rw [madeL, Hall.out, if_neg (by simp), if_neg q1, if_pos q5, hx]
      have l0 : 0 < kids.length := by omega
      clear hM hK hbad HM hk h4 h5 hb hall hin q1 q5 hx
      go_wp2
      go_region
      go_wp2
      refine bodyPost_ret (v := .tuple #[.agg #[.bool truth, .bool xc, .int .u32 (-xv % 4294967296)], .int .i64 0]) (by simp [results, Try.results77, go_sem, *]) rfl ⟨by rw [hres.out], ?_⟩
      have hB := HM2.out.below
      rw [Hb.out]
      repeat (first | exact hB | refine Below.setCell ?_ ?_ _ | refine Below.drew ?_ | refine Below.alloc ?_ ?_ _)
      all_goals first | omega | (simp; omega)
set_option maxHeartbeats 2000000 in
theorem made_false_n (n : Node) (truth : Bool) (u f g : Value) (A : Option Addr) (c kb : Nat) (kids : List Part) (w : World) (hA : 0 < kids.length → A = some ⟨kb, 0, none⟩) (hk : KidsAt w kb kids) (hu : u.oneCell' = true) (hf : f.oneCell' = true) (hg : g.oneCell' = true)
    (hm : kids.length ≤ 2) (hku : ∀ p ∈ kids, isU32 p.value) (qk : ¬ n.kind = 1 ∧ ¬ n.kind = 5 ∧ ¬ n.kind = 4) (h5 : n.kind = 5 → 1 ≤ kids.length) (h4 : n.kind = 4 → 2 ≤ kids.length) :
    Calls Try.prog 77 #[.agg (enc n), .agg #[.bool truth, .bool false, u, f, g], .slice A kids.length c] w fun e w' =>
      e = .returned (.tuple #[.agg #[.bool (madeL n truth false kids).1.truth, .bool (madeL n truth false kids).1.constant, .int .u32 (madeL n truth false kids).1.value], .int .i64 (madeL n truth false kids).2]) ∧ Below w.heap.size w w' := by
  have M0 := made_start w n truth false u f g
  obtain ⟨b, hb⟩ : ∃ b, w.heap.size = b := ⟨_, rfl⟩
  have HM := Lib.hid M0
  clear M0
  go_enter Try.func77, Try.ntmps77
  go_wp2
  go_loopw [15] (fun x wr => ∃ i : Nat, i ≤ kids.length ∧ x = .int .i64 i ∧ kidsBad false (kids.take i) = false ∧ MadeAt w b n truth false u f g wr ∧ KidsAt wr kb kids) (fun x _ => kids.length - (intOf x).toNat)
  case atStart => exact ⟨0, by omega, rfl, rfl, hb ▸ HM.out, hk.later (hb ▸ HM.out.below)⟩
  case round =>
    obtain ⟨i, hi, rfl, hbad, hM, hK⟩ := hrel
    by_cases hlt : i < kids.length
    · obtain rfl := hA (by omega)
      have hkb := kidsBad_take (wants := false) hlt
      rw [hbad] at hkb
      have hko := fun h => kidsBad_of (wants := false) hlt h
      obtain ⟨p, hp⟩ : ∃ p, kids.getD i Part.zero = p := ⟨_, rfl⟩
      have c0 := hK i hlt 0 _ rfl
      have c1 := hK i hlt 1 _ rfl
      have c2 := hK i hlt 2 _ rfl
      rw [hp, Nat.add_zero] at c0
      rw [hp] at c1 c2 hkb hko
      have r1 := hM.row1
      have r1s := World.block_lt_of_cell? wr _ r1
      have k0 : wr.cell? ⟨b + 1 + 1, 0, none⟩ = some (.bool false) := cell_of_row wr _ 0 _ _ _ hM.res
      have k1 : wr.cell? ⟨b + 1 + 1, 1, none⟩ = some (.bool false) := cell_of_row wr _ 1 _ _ _ hM.res
      have k2 : wr.cell? ⟨b + 1 + 1, 2, none⟩ = some (.int .u32 0) := cell_of_row wr _ 2 _ _ _ hM.res
      have f0 := frozen_of_row wr (b + 1 + 1) 0 _ _ hM.res
      have f1 := frozen_of_row wr (b + 1 + 1) 1 _ _ hM.res
      have f2 := frozen_of_row wr (b + 1 + 1) 2 _ _ hM.res
      have ks : b + 1 + 1 < wr.heap.size := hM.size
      have HM2 := Lib.hid hM
      have HK2 := Lib.hid hK
      have Hkb := Lib.hid hkb
      have Hko := Lib.hid hko
      have Hb := Lib.hid hb
      clear hM hK hp hbad hkb hko HM hk hA h4 h5 hb
      obtain ⟨pt, pc, pv⟩ := p
      cases pt
      case false =>
        go_wp2
        go_roundw
        case rel => exact ⟨i + 1, by omega, by go_num, by rw [Hkb.out]; rfl, HM2.out.later ((Below.refl _ _).alloc (Nat.le_refl _) _), HK2.out.later ((Below.refl _ _).alloc (Nat.le_refl _) _)⟩
        case measure => simp [intOf]; omega
      case true =>
        have hres : Hid (madeL n truth false kids = (Part.zero, 122)) := by
          show _ = _
          rw [madeL, if_pos (Hko.out (by simp))]
          rfl
        go_wp2
        refine bodyPost_ret (v := .tuple #[.agg #[.bool false, .bool false, .int .u32 0], .int .i64 122]) (by simp [results, Try.results77, go_sem, *]) rfl ⟨by rw [hres.out]; rfl, ?_⟩
        have hB := HM2.out.below
        rw [Hb.out]
        repeat (first | exact hB | refine Below.setCell ?_ ?_ _ | refine Below.drew ?_ | refine Below.alloc ?_ ?_ _)
        all_goals first | omega | (simp; omega)
    · have hin : i = kids.length := by omega
      have hall : kidsBad false kids = false := by rw [hin, List.take_of_length_le (Nat.le_refl _)] at hbad; exact hbad
      have n0 := hM.kind
      have n0s := World.block_lt_of_cell? wr _ n0
      have nN := hM.node
      have r0 := hM.row0
      have r0s := World.block_lt_of_cell? wr _ r0
      have k0 : wr.cell? ⟨b + 1 + 1, 0, none⟩ = some (.bool false) := cell_of_row wr _ 0 _ _ _ hM.res
      have k1 : wr.cell? ⟨b + 1 + 1, 1, none⟩ = some (.bool false) := cell_of_row wr _ 1 _ _ _ hM.res
      have k2 : wr.cell? ⟨b + 1 + 1, 2, none⟩ = some (.int .u32 0) := cell_of_row wr _ 2 _ _ _ hM.res
      have f0 := frozen_of_row wr (b + 1 + 1) 0 _ _ hM.res
      have f1 := frozen_of_row wr (b + 1 + 1) 1 _ _ hM.res
      have f2 := frozen_of_row wr (b + 1 + 1) 2 _ _ hM.res
      have ks : b + 1 + 1 < wr.heap.size := hM.size
      have HM2 := Lib.hid hM
      have Hb := Lib.hid hb
      have Hall := Lib.hid hall
      obtain ⟨q1, q5, q4⟩ := qk
      have qb1 : (n.kind == 1) = false := by simp; omega
      have qb5 : (n.kind == 5) = false := by simp; omega
      have qb4 : (n.kind == 4) = false := by simpa using q4
      have hres : Hid (madeL n truth false kids = (⟨truth, false, 0⟩, 0)) := by
        show _ = _
        rw [madeL, Hall.out, if_neg (by simp), if_neg q1, if_neg q5, if_neg q4]
      clear hM hK hbad HM hk hA h4 h5 hb hall hin q1 q4 q5
      go_wp2
      refine bodyPost_ret (v := .tuple #[.agg #[.bool truth, .bool false, .int .u32 0], .int .i64 0]) (by simp [results, Try.results77, go_sem, *]) rfl ⟨by rw [hres.out], ?_⟩
      have hB := HM2.out.below
      rw [Hb.out]
      repeat (first | exact hB | refine Below.setCell ?_ ?_ _ | refine Below.drew ?_ | refine Below.alloc ?_ ?_ _)
      all_goals first | omega | (simp; omega)
set_option maxHeartbeats 2000000 in
theorem made_true_1 (n : Node) (truth : Bool) (u f g : Value) (A : Option Addr) (c kb : Nat) (kids : List Part) (w : World) (hA : 0 < kids.length → A = some ⟨kb, 0, none⟩) (hk : KidsAt w kb kids) (hu : u.oneCell' = true) (hf : f.oneCell' = true) (hg : g.oneCell' = true)
    (hm : kids.length ≤ 2) (hku : ∀ p ∈ kids, isU32 p.value) (qk : n.kind = 1) (h5 : n.kind = 5 → 1 ≤ kids.length) (h4 : n.kind = 4 → 2 ≤ kids.length) :
    Calls Try.prog 77 #[.agg (enc n), .agg #[.bool truth, .bool true, u, f, g], .slice A kids.length c] w fun e w' =>
      e = .returned (.tuple #[.agg #[.bool (madeL n truth true kids).1.truth, .bool (madeL n truth true kids).1.constant, .int .u32 (madeL n truth true kids).1.value], .int .i64 (madeL n truth true kids).2]) ∧ Below w.heap.size w w' := by
  have M0 := made_start w n truth true u f g
  obtain ⟨b, hb⟩ : ∃ b, w.heap.size = b := ⟨_, rfl⟩
  have HM := Lib.hid M0
  clear M0
  go_enter Try.func77, Try.ntmps77
  go_wp2
  go_loopw [15] (fun x wr => ∃ i : Nat, i ≤ kids.length ∧ x = .int .i64 i ∧ kidsBad true (kids.take i) = false ∧ MadeAt w b n truth true u f g wr ∧ KidsAt wr kb kids) (fun x _ => kids.length - (intOf x).toNat)
  case atStart => exact ⟨0, by omega, rfl, rfl, hb ▸ HM.out, hk.later (hb ▸ HM.out.below)⟩
  case round =>
    obtain ⟨i, hi, rfl, hbad, hM, hK⟩ := hrel
    by_cases hlt : i < kids.length
    · obtain rfl := hA (by omega)
      have hkb := kidsBad_take (wants := true) hlt
      rw [hbad] at hkb
      have hko := fun h => kidsBad_of (wants := true) hlt h
      obtain ⟨p, hp⟩ : ∃ p, kids.getD i Part.zero = p := ⟨_, rfl⟩
      have c0 := hK i hlt 0 _ rfl
      have c1 := hK i hlt 1 _ rfl
      have c2 := hK i hlt 2 _ rfl
      rw [hp, Nat.add_zero] at c0
      rw [hp] at c1 c2 hkb hko
      have r1 := hM.row1
      have r1s := World.block_lt_of_cell? wr _ r1
      have k0 : wr.cell? ⟨b + 1 + 1, 0, none⟩ = some (.bool false) := cell_of_row wr _ 0 _ _ _ hM.res
      have k1 : wr.cell? ⟨b + 1 + 1, 1, none⟩ = some (.bool false) := cell_of_row wr _ 1 _ _ _ hM.res
      have k2 : wr.cell? ⟨b + 1 + 1, 2, none⟩ = some (.int .u32 0) := cell_of_row wr _ 2 _ _ _ hM.res
      have f0 := frozen_of_row wr (b + 1 + 1) 0 _ _ hM.res
      have f1 := frozen_of_row wr (b + 1 + 1) 1 _ _ hM.res
      have f2 := frozen_of_row wr (b + 1 + 1) 2 _ _ hM.res
      have ks : b + 1 + 1 < wr.heap.size := hM.size
      have HM2 := Lib.hid hM
      have HK2 := Lib.hid hK
      have Hkb := Lib.hid hkb
      have Hko := Lib.hid hko
      have Hb := Lib.hid hb
      clear hM hK hp hbad hkb hko HM hk hA h4 h5 hb
      obtain ⟨pt, pc, pv⟩ := p
      cases pt
      case true =>
        go_wp2
        go_roundw
        case rel => exact ⟨i + 1, by omega, by go_num, by rw [Hkb.out]; rfl, HM2.out.later ((Below.refl _ _).alloc (Nat.le_refl _) _), HK2.out.later ((Below.refl _ _).alloc (Nat.le_refl _) _)⟩
        case measure => simp [intOf]; omega
      case false =>
        have hres : Hid (madeL n truth true kids = (Part.zero, 121)) := by
          show _ = _
          rw [madeL, if_pos (Hko.out (by simp))]
          rfl
        go_wp2
        refine bodyPost_ret (v := .tuple #[.agg #[.bool false, .bool false, .int .u32 0], .int .i64 121]) (by simp [results, Try.results77, go_sem, *]) rfl ⟨by rw [hres.out]; rfl, ?_⟩
        have hB := HM2.out.below
        rw [Hb.out]
        repeat (first | exact hB | refine Below.setCell ?_ ?_ _ | refine Below.drew ?_ | refine Below.alloc ?_ ?_ _)
        all_goals first | omega | (simp; omega)
    · have hin : i = kids.length := by omega
      have hall : kidsBad true kids = false := by rw [hin, List.take_of_length_le (Nat.le_refl _)] at hbad; exact hbad
      have n0 := hM.kind
      have n0s := World.block_lt_of_cell? wr _ n0
      have nN := hM.node
      have r0 := hM.row0
      have r0s := World.block_lt_of_cell? wr _ r0
      have k0 : wr.cell? ⟨b + 1 + 1, 0, none⟩ = some (.bool false) := cell_of_row wr _ 0 _ _ _ hM.res
      have k1 : wr.cell? ⟨b + 1 + 1, 1, none⟩ = some (.bool false) := cell_of_row wr _ 1 _ _ _ hM.res
      have k2 : wr.cell? ⟨b + 1 + 1, 2, none⟩ = some (.int .u32 0) := cell_of_row wr _ 2 _ _ _ hM.res
      have f0 := frozen_of_row wr (b + 1 + 1) 0 _ _ hM.res
      have f1 := frozen_of_row wr (b + 1 + 1) 1 _ _ hM.res
      have f2 := frozen_of_row wr (b + 1 + 1) 2 _ _ hM.res
      have ks : b + 1 + 1 < wr.heap.size := hM.size
      have HM2 := Lib.hid hM
      have Hb := Lib.hid hb
      have Hall := Lib.hid hall
      have q1 : n.kind = 1 := qk
      have nN2 : wr.cell? ⟨b, 2, none⟩ = some (.int .u32 n.n) := by
        have := nodeIn_of nN 2 _ rfl
        rwa [add_plain] at this
      have qb : (n.kind == 1) = true := by simpa using q1
      have hres : Hid (madeL n truth true kids = (⟨truth, true, n.n⟩, 0)) := by
        show _ = _
        rw [madeL, Hall.out, if_neg (by simp), if_pos q1]
      clear hM hK hbad HM hk hA h4 h5 hb hall hin q1
      go_wp2
      go_region
      go_wp2
      refine bodyPost_ret (v := .tuple #[.agg #[.bool truth, .bool true, .int .u32 n.n], .int .i64 0]) (by simp [results, Try.results77, go_sem, *]) rfl ⟨by rw [hres.out], ?_⟩
      have hB := HM2.out.below
      rw [Hb.out]
      repeat (first | exact hB | refine Below.setCell ?_ ?_ _ | refine Below.drew ?_ | refine Below.alloc ?_ ?_ _)
      all_goals first | omega | (simp; omega)
set_option maxHeartbeats 2000000 in
theorem made_true_5 (n : Node) (truth : Bool) (u f g : Value) (A : Option Addr) (c kb : Nat) (kids : List Part) (w : World) (hA : 0 < kids.length → A = some ⟨kb, 0, none⟩) (hk : KidsAt w kb kids) (hu : u.oneCell' = true) (hf : f.oneCell' = true) (hg : g.oneCell' = true)
    (hm : kids.length ≤ 2) (hku : ∀ p ∈ kids, isU32 p.value) (qk : n.kind = 5) (h5 : n.kind = 5 → 1 ≤ kids.length) (h4 : n.kind = 4 → 2 ≤ kids.length) :
    Calls Try.prog 77 #[.agg (enc n), .agg #[.bool truth, .bool true, u, f, g], .slice A kids.length c] w fun e w' =>
      e = .returned (.tuple #[.agg #[.bool (madeL n truth true kids).1.truth, .bool (madeL n truth true kids).1.constant, .int .u32 (madeL n truth true kids).1.value], .int .i64 (madeL n truth true kids).2]) ∧ Below w.heap.size w w' := by
  have M0 := made_start w n truth true u f g
  obtain ⟨b, hb⟩ : ∃ b, w.heap.size = b := ⟨_, rfl⟩
  have HM := Lib.hid M0
  clear M0
  go_enter Try.func77, Try.ntmps77
  go_wp2
  go_loopw [15] (fun x wr => ∃ i : Nat, i ≤ kids.length ∧ x = .int .i64 i ∧ kidsBad true (kids.take i) = false ∧ MadeAt w b n truth true u f g wr ∧ KidsAt wr kb kids) (fun x _ => kids.length - (intOf x).toNat)
  case atStart => exact ⟨0, by omega, rfl, rfl, hb ▸ HM.out, hk.later (hb ▸ HM.out.below)⟩
  case round =>
    obtain ⟨i, hi, rfl, hbad, hM, hK⟩ := hrel
    by_cases hlt : i < kids.length
    · obtain rfl := hA (by omega)
      have hkb := kidsBad_take (wants := true) hlt
      rw [hbad] at hkb
      have hko := fun h => kidsBad_of (wants := true) hlt h
      obtain ⟨p, hp⟩ : ∃ p, kids.getD i Part.zero = p := ⟨_, rfl⟩
      have c0 := hK i hlt 0 _ rfl
      have c1 := hK i hlt 1 _ rfl
      have c2 := hK i hlt 2 _ rfl
      rw [hp, Nat.add_zero] at c0
      rw [hp] at c1 c2 hkb hko
      have r1 := hM.row1
      have r1s := World.block_lt_of_cell? wr _ r1
      have k0 : wr.cell? ⟨b + 1 + 1, 0, none⟩ = some (.bool false) := cell_of_row wr _ 0 _ _ _ hM.res
      have k1 : wr.cell? ⟨b + 1 + 1, 1, none⟩ = some (.bool false) := cell_of_row wr _ 1 _ _ _ hM.res
      have k2 : wr.cell? ⟨b + 1 + 1, 2, none⟩ = some (.int .u32 0) := cell_of_row wr _ 2 _ _ _ hM.res
      have f0 := frozen_of_row wr (b + 1 + 1) 0 _ _ hM.res
      have f1 := frozen_of_row wr (b + 1 + 1) 1 _ _ hM.res
      have f2 := frozen_of_row wr (b + 1 + 1) 2 _ _ hM.res
      have ks : b + 1 + 1 < wr.heap.size := hM.size
      have HM2 := Lib.hid hM
      have HK2 := Lib.hid hK
      have Hkb := Lib.hid hkb
      have Hko := Lib.hid hko
      have Hb := Lib.hid hb
      clear hM hK hp hbad hkb hko HM hk hA h4 h5 hb
      obtain ⟨pt, pc, pv⟩ := p
      cases pt
      case true =>
        go_wp2
        go_roundw
        case rel => exact ⟨i + 1, by omega, by go_num, by rw [Hkb.out]; rfl, HM2.out.later ((Below.refl _ _).alloc (Nat.le_refl _) _), HK2.out.later ((Below.refl _ _).alloc (Nat.le_refl _) _)⟩
        case measure => simp [intOf]; omega
      case false =>
        have hres : Hid (madeL n truth true kids = (Part.zero, 121)) := by
          show _ = _
          rw [madeL, if_pos (Hko.out (by simp))]
          rfl
        go_wp2
        refine bodyPost_ret (v := .tuple #[.agg #[.bool false, .bool false, .int .u32 0], .int .i64 121]) (by simp [results, Try.results77, go_sem, *]) rfl ⟨by rw [hres.out]; rfl, ?_⟩
        have hB := HM2.out.below
        rw [Hb.out]
        repeat (first | exact hB | refine Below.setCell ?_ ?_ _ | refine Below.drew ?_ | refine Below.alloc ?_ ?_ _)
        all_goals first | omega | (simp; omega)
    · have hin : i = kids.length := by omega
      have hall : kidsBad true kids = false := by rw [hin, List.take_of_length_le (Nat.le_refl _)] at hbad; exact hbad
      have n0 := hM.kind
      have n0s := World.block_lt_of_cell? wr _ n0
      have nN := hM.node
      have r0 := hM.row0
      have r0s := World.block_lt_of_cell? wr _ r0
      have k0 : wr.cell? ⟨b + 1 + 1, 0, none⟩ = some (.bool false) := cell_of_row wr _ 0 _ _ _ hM.res
      have k1 : wr.cell? ⟨b + 1 + 1, 1, none⟩ = some (.bool false) := cell_of_row wr _ 1 _ _ _ hM.res
      have k2 : wr.cell? ⟨b + 1 + 1, 2, none⟩ = some (.int .u32 0) := cell_of_row wr _ 2 _ _ _ hM.res
      have f0 := frozen_of_row wr (b + 1 + 1) 0 _ _ hM.res
      have f1 := frozen_of_row wr (b + 1 + 1) 1 _ _ hM.res
      have f2 := frozen_of_row wr (b + 1 + 1) 2 _ _ hM.res
      have ks : b + 1 + 1 < wr.heap.size := hM.size
      have HM2 := Lib.hid hM
      have Hb := Lib.hid hb
      have Hall := Lib.hid hall
      have q5 : n.kind = 5 := qk
      have q1 : ¬ n.kind = 1 := by omega
      have qb1 : (n.kind == 1) = false := by simp; omega
      have hl1 := h5 q5
      obtain rfl := hA (by omega)
      obtain ⟨⟨xt, xc, xv⟩, hx⟩ : ∃ p, kids.getD 0 Part.zero = p := ⟨_, rfl⟩
      have c1 : wr.cell? ⟨kb, 1, none⟩ = some (.bool xc) := hK 0 (by omega) 1 _ (by rw [hx]; rfl)
      have c2 : wr.cell? ⟨kb, 2, none⟩ = some (.int .u32 xv) := hK 0 (by omega) 2 _ (by rw [hx]; rfl)
      have cs := World.block_lt_of_cell? wr _ c1
      have qb : (n.kind == 5) = true := by simpa using q5
      have hres : Hid (madeL n truth true kids = (⟨truth, xc, -xv % 4294967296⟩, 0)) := by
        show _ = _
        rw [madeL, Hall.out, if_neg (by simp), if_neg q1, if_pos q5, hx]
      have l0 : 0 < kids.length := by omega
      clear hM hK hbad HM hk h4 h5 hb hall hin q1 q5 hx
      go_wp2
      go_region
      go_wp2
      refine bodyPost_ret (v := .tuple #[.agg #[.bool truth, .bool xc, .int .u32 (-xv % 4294967296)], .int .i64 0]) (by simp [results, Try.results77, go_sem, *]) rfl ⟨by rw [hres.out], ?_⟩
      have hB := HM2.out.below
      rw [Hb.out]
      repeat (first | exact hB | refine Below.setCell ?_ ?_ _ | refine Below.drew ?_ | refine Below.alloc ?_ ?_ _)
      all_goals first | omega | (simp; omega)
set_option maxHeartbeats 2000000 in
theorem made_true_n (n : Node) (truth : Bool) (u f g : Value) (A : Option Addr) (c kb : Nat) (kids : List Part) (w : World) (hA : 0 < kids.length → A = some ⟨kb, 0, none⟩) (hk : KidsAt w kb kids) (hu : u.oneCell' = true) (hf : f.oneCell' = true) (hg : g.oneCell' = true)
    (hm : kids.length ≤ 2) (hku : ∀ p ∈ kids, isU32 p.value) (qk : ¬ n.kind = 1 ∧ ¬ n.kind = 5 ∧ ¬ n.kind = 4) (h5 : n.kind = 5 → 1 ≤ kids.length) (h4 : n.kind = 4 → 2 ≤ kids.length) :
    Calls Try.prog 77 #[.agg (enc n), .agg #[.bool truth, .bool true, u, f, g], .slice A kids.length c] w fun e w' =>
      e = .returned (.tuple #[.agg #[.bool (madeL n truth true kids).1.truth, .bool (madeL n truth true kids).1.constant, .int .u32 (madeL n truth true kids).1.value], .int .i64 (madeL n truth true kids).2]) ∧ Below w.heap.size w w' := by
  have M0 := made_start w n truth true u f g
  obtain ⟨b, hb⟩ : ∃ b, w.heap.size = b := ⟨_, rfl⟩
  have HM := Lib.hid M0
  clear M0
  go_enter Try.func77, Try.ntmps77
  go_wp2
  go_loopw [15] (fun x wr => ∃ i : Nat, i ≤ kids.length ∧ x = .int .i64 i ∧ kidsBad true (kids.take i) = false ∧ MadeAt w b n truth true u f g wr ∧ KidsAt wr kb kids) (fun x _ => kids.length - (intOf x).toNat)
  case atStart => exact ⟨0, by omega, rfl, rfl, hb ▸ HM.out, hk.later (hb ▸ HM.out.below)⟩
  case round =>
    obtain ⟨i, hi, rfl, hbad, hM, hK⟩ := hrel
    by_cases hlt : i < kids.length
    · obtain rfl := hA (by omega)
      have hkb := kidsBad_take (wants := true) hlt
      rw [hbad] at hkb
      have hko := fun h => kidsBad_of (wants := true) hlt h
      obtain ⟨p, hp⟩ : ∃ p, kids.getD i Part.zero = p := ⟨_, rfl⟩
      have c0 := hK i hlt 0 _ rfl
      have c1 := hK i hlt 1 _ rfl
      have c2 := hK i hlt 2 _ rfl
      rw [hp, Nat.add_zero] at c0
      rw [hp] at c1 c2 hkb hko
      have r1 := hM.row1
      have r1s := World.block_lt_of_cell? wr _ r1
      have k0 : wr.cell? ⟨b + 1 + 1, 0, none⟩ = some (.bool false) := cell_of_row wr _ 0 _ _ _ hM.res
      have k1 : wr.cell? ⟨b + 1 + 1, 1, none⟩ = some (.bool false) := cell_of_row wr _ 1 _ _ _ hM.res
      have k2 : wr.cell? ⟨b + 1 + 1, 2, none⟩ = some (.int .u32 0) := cell_of_row wr _ 2 _ _ _ hM.res
      have f0 := frozen_of_row wr (b + 1 + 1) 0 _ _ hM.res
      have f1 := frozen_of_row wr (b + 1 + 1) 1 _ _ hM.res
      have f2 := frozen_of_row wr (b + 1 + 1) 2 _ _ hM.res
      have ks : b + 1 + 1 < wr.heap.size := hM.size
      have HM2 := Lib.hid hM
      have HK2 := Lib.hid hK
      have Hkb := Lib.hid hkb
      have Hko := Lib.hid hko
      have Hb := Lib.hid hb
      clear hM hK hp hbad hkb hko HM hk hA h4 h5 hb
      obtain ⟨pt, pc, pv⟩ := p
      cases pt
      case true =>
        go_wp2
        go_roundw
        case rel => exact ⟨i + 1, by omega, by go_num, by rw [Hkb.out]; rfl, HM2.out.later ((Below.refl _ _).alloc (Nat.le_refl _) _), HK2.out.later ((Below.refl _ _).alloc (Nat.le_refl _) _)⟩
        case measure => simp [intOf]; omega
      case false =>
        have hres : Hid (madeL n truth true kids = (Part.zero, 121)) := by
          show _ = _
          rw [madeL, if_pos (Hko.out (by simp))]
          rfl
        go_wp2
        refine bodyPost_ret (v := .tuple #[.agg #[.bool false, .bool false, .int .u32 0], .int .i64 121]) (by simp [results, Try.results77, go_sem, *]) rfl ⟨by rw [hres.out]; rfl, ?_⟩
        have hB := HM2.out.below
        rw [Hb.out]
        repeat (first | exact hB | refine Below.setCell ?_ ?_ _ | refine Below.drew ?_ | refine Below.alloc ?_ ?_ _)
        all_goals first | omega | (simp; omega)
    · have hin : i = kids.length := by omega
      have hall : kidsBad true kids = false := by rw [hin, List.take_of_length_le (Nat.le_refl _)] at hbad; exact hbad
      have n0 := hM.kind
      have n0s := World.block_lt_of_cell? wr _ n0
      have nN := hM.node
      have r0 := hM.row0
      have r0s := World.block_lt_of_cell? wr _ r0
      have k0 : wr.cell? ⟨b + 1 + 1, 0, none⟩ = some (.bool false) := cell_of_row wr _ 0 _ _ _ hM.res
      have k1 : wr.cell? ⟨b + 1 + 1, 1, none⟩ = some (.bool false) := cell_of_row wr _ 1 _ _ _ hM.res
      have k2 : wr.cell? ⟨b + 1 + 1, 2, none⟩ = some (.int .u32 0) := cell_of_row wr _ 2 _ _ _ hM.res
      have f0 := frozen_of_row wr (b + 1 + 1) 0 _ _ hM.res
      have f1 := frozen_of_row wr (b + 1 + 1) 1 _ _ hM.res
      have f2 := frozen_of_row wr (b + 1 + 1) 2 _ _ hM.res
      have ks : b + 1 + 1 < wr.heap.size := hM.size
      have HM2 := Lib.hid hM
      have Hb := Lib.hid hb
      have Hall := Lib.hid hall
      obtain ⟨q1, q5, q4⟩ := qk
      have qb1 : (n.kind == 1) = false := by simp; omega
      have qb5 : (n.kind == 5) = false := by simp; omega
      have qb4 : (n.kind == 4) = false := by simpa using q4
      have hres : Hid (madeL n truth true kids = (⟨truth, false, 0⟩, 0)) := by
        show _ = _
        rw [madeL, Hall.out, if_neg (by simp), if_neg q1, if_neg q5, if_neg q4]
      clear hM hK hbad HM hk hA h4 h5 hb hall hin q1 q4 q5
      go_wp2
      refine bodyPost_ret (v := .tuple #[.agg #[.bool truth, .bool false, .int .u32 0], .int .i64 0]) (by simp [results, Try.results77, go_sem, *]) rfl ⟨by rw [hres.out], ?_⟩
      have hB := HM2.out.below
      rw [Hb.out]
      repeat (first | exact hB | refine Below.setCell ?_ ?_ _ | refine Below.drew ?_ | refine Below.alloc ?_ ?_ _)
      all_goals first | omega | (simp; omega)
end Go.Proofs.Ytedhlofmkehfkaa
