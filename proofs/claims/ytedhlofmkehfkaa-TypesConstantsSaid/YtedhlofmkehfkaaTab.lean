/- types.table: the map from kinds to rows of function values. -/
import Derived.Test.YtedhlofmkehfkaaIn
import Derived.Maps.Own
namespace Go.Proofs.Ytedhlofmkehfkaa
open Go.RowKit Go.Shelf
set_option linter.unusedVariables false
set_option linter.unusedSimpArgs false

/-- Block r is a map from whole numbers to values, with these entries in the order in which they came. -/
def MapRow (w : World) (r : Nat) (es : List (Int × Value)) : Prop :=
  ∃ arr clk, w.heap[r]? = some (.map arr clk) ∧ arr.toList.map (fun e => (e.key, e.val)) = es.map fun p => (.int .i64 p.1, p.2)
theorem MapRow.congr {w W : World} {r : Nat} {es : List (Int × Value)} (h : MapRow w r es) (e : W.heap[r]? = w.heap[r]?) : MapRow W r es := by
  obtain ⟨arr, clk, h1, h2⟩ := h
  exact ⟨arr, clk, e.trans h1, h2⟩
theorem MapRow.lt {w : World} {r : Nat} {es : List (Int × Value)} (h : MapRow w r es) : r < w.heap.size := by
  obtain ⟨arr, clk, h1, h2⟩ := h
  exact (Array.getElem?_eq_some_iff.1 h1).1
theorem MapRow.new (w : World) : MapRow (w.alloc (.map #[] 0)) w.heap.size [] := ⟨#[], 0, heap_alloc_new w _, rfl⟩
/-- The value that a key has. -/
def lookE : List (Int × Value) → Int → Option Value
  | [], _ => none
  | p :: r, k => if k = p.1 then some p.2 else lookE r k
theorem findNow_look (k : Int) : ∀ (l : List MapEntry) (es : List (Int × Value)) (i : Nat), l.map (fun e => (e.key, e.val)) = es.map (fun p => (.int .i64 p.1, p.2)) →
    ∃ q, Instr.findNow (.int .i64) (.int .i64 k) l i = some q ∧ q.map (·.2) = lookE es k
  | [], es, i, h => by
    have : es = [] := by simpa using h.symm
    subst this
    exact ⟨none, rfl, rfl⟩
  | e :: l, es, i, h => by
    cases es with
    | nil => simp at h
    | cons p es =>
      simp only [List.map_cons, List.cons.injEq, Prod.mk.injEq] at h
      obtain ⟨⟨h1, h2⟩, h3⟩ := h
      by_cases hk : k = p.1
      · refine ⟨some (i, e.val), ?_, ?_⟩
        · simp [Instr.findNow, Instr.sameNow, h1, hk]
        · simp [lookE, hk, h2]
      · obtain ⟨q, hq, hl⟩ := findNow_look k l es (i + 1) h3
        refine ⟨q, ?_, ?_⟩
        · have hb : (k == p.1) = false := beq_eq_false_iff_ne.2 hk
          simp [Instr.findNow, Instr.sameNow, h1, hb, hq]
        · simp [lookE, hk, hl]
section
variable {P : Program}
theorem run_getMap (w : World) (r : Nat) (arr : Array MapEntry) (clk : Nat) (h : w.heap[r]? = some (.map arr clk)) : (getObj r).run P w = .ok (.map arr clk) w := by
  simp [getObj, Sem.run, h]
theorem run_checkKey_int (w : World) (empty : Bool) (n : Nat) (t : TypeId) (ht : P.underlying t = some (.int .i64)) (k : Int) : (Instr.checkKey empty (n + 1) t (.int .i64 k)).run P w = .ok () w := by
  simp [Instr.checkKey, run_underlying ht]
/-- What a look-up finds. -/
theorem run_lookup_int (w : World) (t e ki : TypeId) (ht : P.underlying t = some (.map ki e)) (hki : P.underlying ki = some (.int .i64)) (z : Value) (hz : ∀ w, (zeroValue e).run P w = .ok z w)
    (r : Nat) (es : List (Int × Value)) (h : MapRow w r es) (k : Int) (ok : Bool) :
    (Instr.lookup t (.map (some r)) (.int .i64 k) ok).run P w = .ok (match lookE es k with | some v => if ok then .tuple #[v, .bool true] else v | none => if ok then .tuple #[z, .bool false] else z) w := by
  obtain ⟨arr, clk, h1, h2⟩ := h
  obtain ⟨q, hq, hl⟩ := findNow_look k arr.toList es 0 h2
  have hf : (Instr.findKey ki (.int .i64 k) arr.toList).run P w = .ok q w := by
    simp [Instr.findKey, run_underlying hki, hq]
  simp only [Instr.lookup, Sem.run_bind, run_underlying ht, Result.andThen_ok, run_getMap w r arr clk h1, Sem.run_pure, run_checkKey_int w _ 9999 ki hki, hf]
  cases q with
  | none =>
    have : lookE es k = none := by simpa using hl.symm
    simp only [this, hz, Sem.run_bind, Result.andThen_ok, Sem.run_pure]
    try (cases ok <;> rfl)
  | some p =>
    have : lookE es k = some p.2 := by simpa using hl.symm
    simp only [this, Sem.run_bind, Result.andThen_ok, Sem.run_pure]
    try (cases ok <;> rfl)
/-- A new key. -/
theorem run_insert_int (w : World) (t e ki : TypeId) (ht : P.underlying t = some (.map ki e)) (hki : P.underlying ki = some (.int .i64))
    (r : Nat) (es : List (Int × Value)) (h : MapRow w r es) (k : Int) (hk : lookE es k = none) (v : Value) :
    ∃ w', (Instr.mapUpdate t (.map (some r)) (.int .i64 k) v).run P w = .ok () w' ∧ MapRow w' r (es ++ [(k, v)]) ∧ w.grownBy w' (some r) ∧ w'.heap.size = w.heap.size := by
  obtain ⟨arr, clk, h1, h2⟩ := h
  obtain ⟨q, hq, hl⟩ := findNow_look k arr.toList es 0 h2
  have hn : q = none := by
    cases q with
    | none => rfl
    | some p => rw [hk] at hl; simp at hl
  subst hn
  have hf : (Instr.findKey ki (.int .i64 k) arr.toList).run P w = .ok none w := by
    simp [Instr.findKey, run_underlying hki, hq]
  have hr := (Array.getElem?_eq_some_iff.1 h1).1
  refine ⟨{ w with heap := w.heap.setIfInBounds r (.map (arr.push { key := .int .i64 k, val := v, born := clk }) (clk + 1)) }, ?_, ?_, ?_, by simp⟩
  · simp only [Instr.mapUpdate, Sem.run_bind, run_underlying ht, Result.andThen_ok, run_getMap w r arr clk h1, Sem.run_pure, run_checkKey_int w _ 9999 ki hki, hf]
    simp [setObj, Sem.run, h1]
  · refine ⟨arr.push { key := .int .i64 k, val := v, born := clk }, clk + 1, ?_, ?_⟩
    · simp [hr]
    · simp [h2]
  · refine ⟨rfl, rfl, rfl, by simp, fun j hj hne => ?_⟩
    have : r ≠ j := fun e => hne (by rw [e])
    simp [Array.getElem?_setIfInBounds, this]
theorem wpList_insert_int {ops : Array Oper} {rest : List Oper} {o : Oper} {a : Act} {Q : Exit → Act → World → Prop} (w : World) (hgd : o.guard = none) (t e ki : TypeId) (m kx vx : Operand) (ho : o.op = .insert t m kx vx)
    (ht : P.underlying t = some (.map ki e)) (hki : P.underlying ki = some (.int .i64)) (r : Nat) (k : Int) (v : Value) (hm : a.eval m = .map (some r)) (hkx : a.eval kx = .int .i64 k) (hvx : a.eval vx = v)
    (es : List (Int × Value)) (h : MapRow w r es) (hk : lookE es k = none)
    (cont : ∀ w', MapRow w' r (es ++ [(k, v)]) → w.grownBy w' (some r) → w'.heap.size = w.heap.size → wpList P ops Q rest (a.put o.dst undef) w') : wpList P ops Q (o :: rest) a w := by
  obtain ⟨w', hrun, h1, h2, h3⟩ := run_insert_int (P := P) w t e ki ht hki r es h k hk v
  refine wpList_plain hgd fun K hK => ?_
  unfold Oper.wp execOp
  simp only [ho, hm, hkx, hvx, Sem.run_bind, hrun, Result.andThen_ok, Sem.run_pure]
  exact hK _ _ (cont w' h1 h2 h3)
end
theorem AgreeOn.grown {lo hi r : Nat} {a b : World} (h : a.grownBy b (some r)) (h1 : r < lo) (h2 : hi ≤ a.heap.size) : AgreeOn lo hi a b :=
  ⟨Nat.le_trans h2 h.size, fun i q1 q2 => h.block i (Nat.lt_of_lt_of_le q2 h2) (fun e => by cases e; omega)⟩

/-! ### What the rows say -/
def truthK (k : Int) : Bool := decide (6 ≤ k)
def wantsK (k : Int) : Bool := decide (k = 7) || decide (k = 8) || decide (k = 9)

/-- Are the fields that a node of kind k does not use zero, and its words such as it may have? -/
def unusedB (k : Int) (n : Node) : Bool :=
  if k = 1 then onlyB (fun n => { n with n := 0 }) n else
  if k = 2 then onlyB (fun n => n) n else
  if k = 3 then onlyB (fun n => { n with size := 0, of := 0 }) n && inR n.of 1 12 else
  if k = 4 then onlyB (fun n => { n with op := 0 }) n && inR n.op 1 10 else
  if k = 5 then onlyB (fun n => n) n else
  if k = 6 then onlyB (fun n => { n with op := 0 }) n && inR n.op 1 6 else
  if k = 7 then onlyB (fun n => n) n else
  if k = 8 then onlyB (fun n => n) n else
  if k = 9 then onlyB (fun n => n) n else
  if k = 10 then onlyB (fun n => { n with side := 0 }) n && inR n.side 1 2 else
  if k = 11 then onlyB (fun n => { n with of := 0 }) n && inR n.of 2 13 else
  if k = 12 then onlyB (fun n => { n with n := 0 }) n else
  if k = 13 then onlyB (fun n => { n with of := 0, n := 0 }) n && inR n.of 2 3 else
  if k = 14 then onlyB (fun n => { n with of := 0, side := 0, addr := A16.zero }) n && netB n else
  if k = 15 then onlyB (fun n => { n with of := 0, side := 0, addr := A16.zero, bits := 0 }) n && netB n else
  if k = 16 then onlyB (fun n => { n with of := 0, side := 0, n := 0, m := 0 }) n && portB n else false
def fitsB (k : Int) (n : Node) : Bool :=
  if k = 3 then decide (n.size = 1) || decide (n.size = 2) || decide (n.size = 4) else
  if k = 12 then decide (n.n ≤ 65535) else
  if k = 13 then decide (n.n ≤ 255) else
  if k = 15 then bitsB n else
  if k = 16 then decide (n.m ≤ 65535) && decide (n.n ≤ n.m) else true
def weightI (k : Int) (n : Node) : Int :=
  if k = 1 then 1 else
  if k = 2 then 2 else
  if k = 3 then 24 else
  if k = 4 then 6 else
  if k = 5 then 2 else
  if k = 6 then 8 else
  if k = 7 then 1 else
  if k = 8 then 1 else
  if k = 9 then 1 else
  if k = 10 then 6 else
  if k = 11 then 12 else
  if k = 12 then 8 else
  if k = 13 then 16 else
  if k = 14 then byI 24 72 n else
  if k = 15 then byI 32 80 n else
  if k = 16 then 40 else 0
/-- A row of the table. -/
structure RowOk (lo hi : Nat) (w : World) (p : Int × Value) : Prop where
  out : ∃ u f g, p.2 = .agg #[.bool (truthK p.1), .bool (wantsK p.1), u, f, g] ∧ FnB lo hi u (unusedB p.1) w ∧ FnB lo hi f (fitsB p.1) w ∧ FnI lo hi g (weightI p.1) w
theorem RowOk.later {lo hi lo2 hi2 : Nat} {p : Int × Value} {w W : World} (h : RowOk lo hi w p) (hb : AgreeOn lo hi w W) (h1 : lo2 ≤ lo) (h2 : hi ≤ hi2) : RowOk lo2 hi2 W p := by
  obtain ⟨u, f, g, e, a, b, c⟩ := h.out
  exact ⟨u, f, g, e, a.later hb h1 h2, b.later hb h1 h2, c.later hb h1 h2⟩
/-- The table that has been built so far, in block r: the rows of the kinds 1 to n. -/
structure TabN (w0 : World) (r n : Nat) (w : World) : Prop where
  out : ∃ es : List (Int × Value), MapRow w r es ∧ es.map (·.1) = (List.range n).map (fun i : Nat => ((i : Int) + 1)) ∧ (∀ p ∈ es, RowOk (r + 1) w.heap.size w p)
  base : w0.heap.size = r
  below : Below r w0 w
theorem lookE_fresh {es : List (Int × Value)} {n : Nat} (h : es.map (·.1) = (List.range n).map (fun i : Nat => ((i : Int) + 1))) (k : Int) (hk : k = n + 1) : lookE es k = none := by
  have hne : ∀ p ∈ es, k ≠ p.1 := by
    intro p hp e
    have : p.1 ∈ es.map (·.1) := List.mem_map_of_mem hp
    rw [h] at this
    obtain ⟨i, hi, e2⟩ := List.mem_map.1 this
    have := List.mem_range.1 hi
    omega
  clear h
  induction es with
  | nil => rfl
  | cons p es ih =>
    rw [lookE, if_neg (hne p (by simp))]
    exact ih fun q hq => hne q (by simp [hq])
theorem TabN.later {w0 w W : World} {r n : Nat} (h : TabN w0 r n w) (hb : Below w.heap.size w W) : TabN w0 r n W := by
  obtain ⟨es, hm, hk, hr⟩ := h.out
  have hr2 := hm.lt
  have hA : AgreeOn (r + 1) w.heap.size w W := AgreeOn.below hb (Nat.le_refl _) (Nat.le_refl _)
  exact ⟨⟨es, hm.congr (hb.block r hr2), hk, fun p hp => (hr p hp).later hA (Nat.le_refl _) hb.size⟩, h.base, h.below.trans (hb.mono (Nat.le_of_lt hr2))⟩
/-- One row more. -/
theorem TabN.add {w0 w W : World} {r n : Nat} {k : Int} {v : Value} (h : TabN w0 r n w) (hk : k = n + 1) (hv : RowOk (r + 1) w.heap.size w (k, v)) {es : List (Int × Value)} (hes : MapRow W r (es ++ [(k, v)])) (hm : MapRow w r es)
    (hg : w.grownBy W (some r)) (hs : W.heap.size = w.heap.size) (e1 : es.map (·.1) = (List.range n).map (fun i : Nat => ((i : Int) + 1))) (e2 : ∀ p ∈ es, RowOk (r + 1) w.heap.size w p) : TabN w0 r (n + 1) W := by
  have hA : AgreeOn (r + 1) w.heap.size w W := AgreeOn.grown hg (Nat.lt_succ_self r) (Nat.le_refl _)
  refine ⟨⟨es ++ [(k, v)], hes, ?_, fun p hp => ?_⟩, h.base, h.below.grown hg (Nat.le_of_lt hm.lt) (fun j e => by cases e; exact Nat.le_refl _)⟩
  · simp [List.range_succ, e1, hk]
  · rw [hs]
    rcases List.mem_append.1 hp with hp | hp
    · exact (e2 p hp).later hA (Nat.le_refl _) (Nat.le_refl _)
    · obtain rfl := List.mem_singleton.1 hp
      exact hv.later hA (Nat.le_refl _) (Nat.le_refl _)
theorem wpList_row {ops : Array Oper} {rest : List Oper} {o : Oper} {a : Act} {Q : Exit → Act → World → Prop} (w0 w : World) (hgd : o.guard = none) (m kx vx : Operand) (ho : o.op = .insert 56 m kx vx)
    (r n : Nat) (k : Int) (v : Value) (hm : a.eval m = .map (some r)) (hkx : a.eval kx = .int .i64 k) (hvx : a.eval vx = v)
    (h : TabN w0 r n w) (hk : k = n + 1) (hv : RowOk (r + 1) w.heap.size w (k, v))
    (cont : ∀ w', TabN w0 r (n + 1) w' → wpList Try.prog ops Q rest (a.put o.dst undef) w') : wpList Try.prog ops Q (o :: rest) a w := by
  obtain ⟨es, e0, e1, e2⟩ := h.out
  exact wpList_insert_int w hgd _ _ _ m kx vx ho Try.underlying56 Try.underlying3 r k v hm hkx hvx es e0 (lookE_fresh e1 k hk) fun w' q1 q2 q3 => cont w' (h.add hk hv q1 e0 q2 q3 e1 e2)
theorem TabN.lt {w0 w : World} {r n : Nat} (h : TabN w0 r n w) : r < w.heap.size := by
  obtain ⟨es, hm, _⟩ := h.out
  exact hm.lt
theorem TabN.size {w0 w : World} {r n : Nat} (h : TabN w0 r n w) : w0.heap.size ≤ w.heap.size := h.below.size

theorem setCell_setRow {W : World} {b : Nat} {c : Array Value} {t : TypeId} (h : W.heap[b]? = some (.cells c t (0, 0))) (d : Array Value) (k : Nat) (v : Value) :
    (W.setRow b d).setCell ⟨b, k, none⟩ v = W.setRow b (d.setIfInBounds k v) := by
  rw [setCell_eq_setRow _ b k _ _ _ _ (setRow_heap W b _ _ _ _ h), setRow_setRow]
/-- Sixteen bytes, stored: a name that the walk doesn't open. -/
def storeA (v x : Value) : Sem Unit := Instr.storeAt 38 v x
@[go_sem ↓] theorem execOp_store_A (ρ : Operand → Value) (dst : Option Tmp) (x y : Operand) (ty : TypeId) (pos : String) (after : Array Edge) (guard : Option (Nat × Bool)) :
    execOp ρ { dst, op := .store 38 x y, type := ty, pos, after, guard } = (do storeA (ρ x) (ρ y); pure .skip) := rfl
theorem run_storeA (W : World) (b : Nat) (m : Node) {n : Node} (hb : W.heap[b]? = some (.cells (enc n) 40 (0, 0))) :
    (storeA (.pointer (some ⟨b, 7, none⟩)) (.agg (encA A16.zero))).run Try.prog (W.setRow b (enc m)) = .ok () (W.setRow b (enc { m with addr := A16.zero })) := by
  have h := run_storeCells_at Try.prog b 7 40 (encA A16.zero).toList 0 (enc m) (W.setRow b (enc m)) (setRow_heap W b _ _ _ _ hb) (by simp [enc_size, encA]) (by intro v hv; simp [encA, A16.zero] at hv; rw [hv]; rfl)
  simp only [storeA, Instr.storeAt, Instr.sureAddr, storeVar, Sem.run_bind, Sem.run_pure, Result.andThen_ok, Try.sizeOf38, Value.cells]
  have hsz : (encA A16.zero).size = 16 := rfl
  simp only [hsz, ne_eq, not_true_eq_false, if_false]
  refine h.trans ?_
  rw [setRow_setRow]
  rfl
set_option maxHeartbeats 1000000 in
set_option maxRecDepth 100000 in
theorem used19 : FnU (.func (.func 62) #[] #[]) (fun n => { n with of := 0, side := 0, addr := A16.zero }) := by
  refine ⟨_, rfl, enters_of Try.func62 (by kernel_rfl) rfl, fun W b n hb => ?_⟩
  have c5 : W.cell? ⟨b, 5, none⟩ = some (.int .i64 n.of) := by rw [cell_of_row W b _ _ _ _ hb]; rfl
  have f5 : W.frozen? ⟨b, 5, none⟩ = false := frozen_of_row W b _ _ _ hb
  have c6 : W.cell? ⟨b, 6, none⟩ = some (.int .i64 n.side) := by rw [cell_of_row W b _ _ _ _ hb]; rfl
  have f6 : W.frozen? ⟨b, 6, none⟩ = false := frozen_of_row W b _ _ _ hb
  have e1 : (W.setCell ⟨b, 5, none⟩ (.int .i64 0)).setCell ⟨b, 6, none⟩ (.int .i64 0) = W.setRow b (enc { n with of := 0, side := 0 }) := by
    rw [setCell_eq_setRow _ b 5 _ _ _ _ hb, setCell_setRow hb]
    rfl
  have hst := run_storeA W b { n with of := 0, side := 0 } hb
  rw [← e1] at hst
  have e2 : W.setRow b (enc { n with of := 0, side := 0, addr := A16.zero }) = W.setRow b (enc { n with of := 0, side := 0, addr := A16.zero }) := rfl
  obtain ⟨W3, h3⟩ : ∃ W3, W.setRow b (enc { n with of := 0, side := 0, addr := A16.zero }) = W3 := ⟨_, rfl⟩
  have hst : (storeA (.pointer (some ⟨b, 7, none⟩)) (.agg #[.int .u8 0, .int .u8 0, .int .u8 0, .int .u8 0, .int .u8 0, .int .u8 0, .int .u8 0, .int .u8 0, .int .u8 0, .int .u8 0, .int .u8 0, .int .u8 0, .int .u8 0, .int .u8 0, .int .u8 0, .int .u8 0])).run Try.prog ((W.setCell ⟨b, 5, none⟩ (.int .i64 0)).setCell ⟨b, 6, none⟩ (.int .i64 0)) = .ok () W3 := by rw [← h3]; exact hst
  have H4 := Lib.hid h3.symm
  clear hb h3 e1 e2
  go_enter Try.func62, Try.ntmps62
  go_wp2
  go_end0
  exact ⟨rfl, H4.out⟩
set_option maxHeartbeats 1000000 in
set_option maxRecDepth 100000 in
theorem used20 : FnU (.func (.func 65) #[] #[]) (fun n => { n with of := 0, side := 0, addr := A16.zero, bits := 0 }) := by
  refine ⟨_, rfl, enters_of Try.func65 (by kernel_rfl) rfl, fun W b n hb => ?_⟩
  have c5 : W.cell? ⟨b, 5, none⟩ = some (.int .i64 n.of) := by rw [cell_of_row W b _ _ _ _ hb]; rfl
  have f5 : W.frozen? ⟨b, 5, none⟩ = false := frozen_of_row W b _ _ _ hb
  have c6 : W.cell? ⟨b, 6, none⟩ = some (.int .i64 n.side) := by rw [cell_of_row W b _ _ _ _ hb]; rfl
  have f6 : W.frozen? ⟨b, 6, none⟩ = false := frozen_of_row W b _ _ _ hb
  have e1 : (W.setCell ⟨b, 5, none⟩ (.int .i64 0)).setCell ⟨b, 6, none⟩ (.int .i64 0) = W.setRow b (enc { n with of := 0, side := 0 }) := by
    rw [setCell_eq_setRow _ b 5 _ _ _ _ hb, setCell_setRow hb]
    rfl
  have hst := run_storeA W b { n with of := 0, side := 0 } hb
  rw [← e1] at hst
  have e2 : W.setRow b (enc { n with of := 0, side := 0, addr := A16.zero }) = W.setRow b (enc { n with of := 0, side := 0, addr := A16.zero }) := rfl
  obtain ⟨W3, h3⟩ : ∃ W3, W.setRow b (enc { n with of := 0, side := 0, addr := A16.zero }) = W3 := ⟨_, rfl⟩
  have hst : (storeA (.pointer (some ⟨b, 7, none⟩)) (.agg #[.int .u8 0, .int .u8 0, .int .u8 0, .int .u8 0, .int .u8 0, .int .u8 0, .int .u8 0, .int .u8 0, .int .u8 0, .int .u8 0, .int .u8 0, .int .u8 0, .int .u8 0, .int .u8 0, .int .u8 0, .int .u8 0])).run Try.prog ((W.setCell ⟨b, 5, none⟩ (.int .i64 0)).setCell ⟨b, 6, none⟩ (.int .i64 0)) = .ok () W3 := by rw [← h3]; exact hst
  have hb3 : W3.heap[b]? = some (.cells (enc { n with of := 0, side := 0, addr := A16.zero }) 40 (0, 0)) := by rw [← h3]; exact setRow_heap W b _ _ _ _ hb
  have c23 : W3.cell? ⟨b, 23, none⟩ = some (.int .i64 n.bits) := by rw [cell_of_row W3 b _ _ _ _ hb3]; rfl
  have f23 : W3.frozen? ⟨b, 23, none⟩ = false := frozen_of_row W3 b _ _ _ hb3
  have H4 : Hid (W3.setCell ⟨b, 23, none⟩ (.int .i64 0) = W.setRow b (enc { n with of := 0, side := 0, addr := A16.zero, bits := 0 })) := by
    show _ = _
    rw [← h3, setCell_setRow hb]
    rfl
  clear hb h3 e1 e2 hb3
  go_enter Try.func65, Try.ntmps65
  go_wp2
  go_end0
  exact ⟨rfl, H4.out⟩

set_option maxHeartbeats 2000000 in
set_option maxRecDepth 100000 in
theorem table_any (w0 : World) : Calls Try.prog 29 #[] w0 fun e w => ∃ r, e = .returned (.map (some r)) ∧ TabN w0 r 16 w := by
  have hmm := @run_makeMap Try.prog
  have T0 : TabN w0 w0.heap.size 0 (w0.alloc (.map #[] 0)) := ⟨⟨[], MapRow.new w0, rfl, fun p hp => by cases hp⟩, rfl, (Below.refl _ _).alloc (Nat.le_refl _) _⟩
  obtain ⟨r, hr⟩ : ∃ r, w0.heap.size = r := ⟨_, rfl⟩
  rw [hr] at T0
  go_enter Try.func29, Try.ntmps29
  simp only [List.append]
  go_wp2_with fail
  clear hr hmm
  generalize w0.alloc (.map #[] 0) = w at T0 ⊢
  -- kind 1
  refine (only_any _ _ w used2).mono ?_
  rintro e w1a ⟨u1, rfl, hu1, hb1a⟩
  have T1a := T0.later hb1a
  have hl1 : r + 1 ≤ w.heap.size := T0.lt
  have G1 : FnB (r + 1) w1a.heap.size u1 _ w1a := hu1.later (AgreeOn.refl (Nat.le_refl _)) hl1 (Nat.le_refl _)
  clear T0 hu1 hb1a
  obtain ⟨uff1, ucc1, huee1⟩ : ∃ f c, u1 = .func (.func f) #[] c := by obtain ⟨f, c, h, _⟩ := G1; exact ⟨f, c, h⟩
  subst huee1
  go_wp2_with fail
  refine (w_any _ w1a).mono ?_
  rintro e w1c ⟨g1, rfl, hg1, hb1c⟩
  have A1 : AgreeOn (r + 1) w1a.heap.size w1a w1c := AgreeOn.below hb1c (Nat.le_refl _) (Nat.le_refl _)
  have T1c := T1a.later hb1c
  obtain ⟨gff1, gcc1, hgee1⟩ : ∃ f c, g1 = .func (.func f) #[] c := by obtain ⟨f, c, h, _⟩ := hg1; exact ⟨f, c, h⟩
  subst hgee1
  have R1 : RowOk (r + 1) w1c.heap.size w1c (1, .agg #[.bool false, .bool false, .func (.func uff1) #[] ucc1, .func (.func 42) #[] #[], .func (.func gff1) #[] gcc1]) := ⟨⟨_, _, _, rfl, G1.later A1 (Nat.le_refl _) hb1c.size, always_any _ _ _, hg1.later (AgreeOn.refl (Nat.le_refl _)) T1a.lt (Nat.le_refl _)⟩⟩
  clear A1 hg1 hb1c T1a G1
  go_wp2_with (refine wpList_row w0 _ rfl _ _ _ rfl r 0 1 (.agg #[.bool false, .bool false, .func (.func uff1) #[] ucc1, .func (.func 42) #[] #[], .func (.func gff1) #[] gcc1]) rfl rfl rfl T1c rfl R1 ?_; intro w1 T1; clear T1c R1)
  -- kind 2
  refine (only_any _ _ w1 used1).mono ?_
  rintro e w2a ⟨u2, rfl, hu2, hb2a⟩
  have T2a := T1.later hb2a
  have hl2 : r + 1 ≤ w1.heap.size := T1.lt
  have G2 : FnB (r + 1) w2a.heap.size u2 _ w2a := hu2.later (AgreeOn.refl (Nat.le_refl _)) hl2 (Nat.le_refl _)
  clear T1 hu2 hb2a
  obtain ⟨uff2, ucc2, huee2⟩ : ∃ f c, u2 = .func (.func f) #[] c := by obtain ⟨f, c, h, _⟩ := G2; exact ⟨f, c, h⟩
  subst huee2
  go_wp2_with fail
  refine (w_any _ w2a).mono ?_
  rintro e w2c ⟨g2, rfl, hg2, hb2c⟩
  have A2 : AgreeOn (r + 1) w2a.heap.size w2a w2c := AgreeOn.below hb2c (Nat.le_refl _) (Nat.le_refl _)
  have T2c := T2a.later hb2c
  obtain ⟨gff2, gcc2, hgee2⟩ : ∃ f c, g2 = .func (.func f) #[] c := by obtain ⟨f, c, h, _⟩ := hg2; exact ⟨f, c, h⟩
  subst hgee2
  have R2 : RowOk (r + 1) w2c.heap.size w2c (2, .agg #[.bool false, .bool false, .func (.func uff2) #[] ucc2, .func (.func 42) #[] #[], .func (.func gff2) #[] gcc2]) := ⟨⟨_, _, _, rfl, G2.later A2 (Nat.le_refl _) hb2c.size, always_any _ _ _, hg2.later (AgreeOn.refl (Nat.le_refl _)) T2a.lt (Nat.le_refl _)⟩⟩
  clear A2 hg2 hb2c T2a G2
  go_wp2_with (refine wpList_row w0 _ rfl _ _ _ rfl r 1 2 (.agg #[.bool false, .bool false, .func (.func uff2) #[] ucc2, .func (.func 42) #[] #[], .func (.func gff2) #[] gcc2]) rfl rfl rfl T2c rfl R2 ?_; intro w2 T2; clear T2c R2)
  -- kind 3
  refine (only_any _ _ w2 used3).mono ?_
  rintro e w3a ⟨u3, rfl, hu3, hb3a⟩
  have T3a := T2.later hb3a
  have hl3 : r + 1 ≤ w2.heap.size := T2.lt
  have G3 : FnB (r + 1) w3a.heap.size u3 _ w3a := hu3.later (AgreeOn.refl (Nat.le_refl _)) hl3 (Nat.le_refl _)
  clear T2 hu3 hb3a
  obtain ⟨uf3, uc3, hue3⟩ : ∃ f c, u3 = .func (.func f) #[] c := by obtain ⟨f, c, h, _⟩ := G3; exact ⟨f, c, h⟩
  subst hue3
  go_wp2_with fail
  refine (also_any (r + 1) _ _ _ _ _ T3a.lt G3 (pred4 _ _ _)).mono ?_
  rintro e w3b ⟨v3, rfl, H3, hb3b⟩
  have T3b := T3a.later hb3b
  clear T3a G3 hb3b hl3
  obtain ⟨uff3, ucc3, huee3⟩ : ∃ f c, v3 = .func (.func f) #[] c := by obtain ⟨f, c, h, _⟩ := H3; exact ⟨f, c, h⟩
  subst huee3
  go_wp2_with fail
  refine (w_any _ w3b).mono ?_
  rintro e w3c ⟨g3, rfl, hg3, hb3c⟩
  have A3 : AgreeOn (r + 1) w3b.heap.size w3b w3c := AgreeOn.below hb3c (Nat.le_refl _) (Nat.le_refl _)
  have T3c := T3b.later hb3c
  obtain ⟨gff3, gcc3, hgee3⟩ : ∃ f c, g3 = .func (.func f) #[] c := by obtain ⟨f, c, h, _⟩ := hg3; exact ⟨f, c, h⟩
  subst hgee3
  have R3 : RowOk (r + 1) w3c.heap.size w3c (3, .agg #[.bool false, .bool false, .func (.func uff3) #[] ucc3, .func (.func 48) #[] #[], .func (.func gff3) #[] gcc3]) := ⟨⟨_, _, _, rfl, H3.later A3 (Nat.le_refl _) hb3c.size, size_any _ _ _, hg3.later (AgreeOn.refl (Nat.le_refl _)) T3b.lt (Nat.le_refl _)⟩⟩
  clear A3 hg3 hb3c T3b H3
  go_wp2_with (refine wpList_row w0 _ rfl _ _ _ rfl r 2 3 (.agg #[.bool false, .bool false, .func (.func uff3) #[] ucc3, .func (.func 48) #[] #[], .func (.func gff3) #[] gcc3]) rfl rfl rfl T3c rfl R3 ?_; intro w3 T3; clear T3c R3)
  -- kind 4
  refine (only_any _ _ w3 used6).mono ?_
  rintro e w4a ⟨u4, rfl, hu4, hb4a⟩
  have T4a := T3.later hb4a
  have hl4 : r + 1 ≤ w3.heap.size := T3.lt
  have G4 : FnB (r + 1) w4a.heap.size u4 _ w4a := hu4.later (AgreeOn.refl (Nat.le_refl _)) hl4 (Nat.le_refl _)
  clear T3 hu4 hb4a
  obtain ⟨uf4, uc4, hue4⟩ : ∃ f c, u4 = .func (.func f) #[] c := by obtain ⟨f, c, h, _⟩ := G4; exact ⟨f, c, h⟩
  subst hue4
  go_wp2_with fail
  refine (also_any (r + 1) _ _ _ _ _ T4a.lt G4 (pred7 _ _ _)).mono ?_
  rintro e w4b ⟨v4, rfl, H4, hb4b⟩
  have T4b := T4a.later hb4b
  clear T4a G4 hb4b hl4
  obtain ⟨uff4, ucc4, huee4⟩ : ∃ f c, v4 = .func (.func f) #[] c := by obtain ⟨f, c, h, _⟩ := H4; exact ⟨f, c, h⟩
  subst huee4
  go_wp2_with fail
  refine (w_any _ w4b).mono ?_
  rintro e w4c ⟨g4, rfl, hg4, hb4c⟩
  have A4 : AgreeOn (r + 1) w4b.heap.size w4b w4c := AgreeOn.below hb4c (Nat.le_refl _) (Nat.le_refl _)
  have T4c := T4b.later hb4c
  obtain ⟨gff4, gcc4, hgee4⟩ : ∃ f c, g4 = .func (.func f) #[] c := by obtain ⟨f, c, h, _⟩ := hg4; exact ⟨f, c, h⟩
  subst hgee4
  have R4 : RowOk (r + 1) w4c.heap.size w4c (4, .agg #[.bool false, .bool false, .func (.func uff4) #[] ucc4, .func (.func 42) #[] #[], .func (.func gff4) #[] gcc4]) := ⟨⟨_, _, _, rfl, H4.later A4 (Nat.le_refl _) hb4c.size, always_any _ _ _, hg4.later (AgreeOn.refl (Nat.le_refl _)) T4b.lt (Nat.le_refl _)⟩⟩
  clear A4 hg4 hb4c T4b H4
  go_wp2_with (refine wpList_row w0 _ rfl _ _ _ rfl r 3 4 (.agg #[.bool false, .bool false, .func (.func uff4) #[] ucc4, .func (.func 42) #[] #[], .func (.func gff4) #[] gcc4]) rfl rfl rfl T4c rfl R4 ?_; intro w4 T4; clear T4c R4)
  -- kind 5
  refine (only_any _ _ w4 used1).mono ?_
  rintro e w5a ⟨u5, rfl, hu5, hb5a⟩
  have T5a := T4.later hb5a
  have hl5 : r + 1 ≤ w4.heap.size := T4.lt
  have G5 : FnB (r + 1) w5a.heap.size u5 _ w5a := hu5.later (AgreeOn.refl (Nat.le_refl _)) hl5 (Nat.le_refl _)
  clear T4 hu5 hb5a
  obtain ⟨uff5, ucc5, huee5⟩ : ∃ f c, u5 = .func (.func f) #[] c := by obtain ⟨f, c, h, _⟩ := G5; exact ⟨f, c, h⟩
  subst huee5
  go_wp2_with fail
  refine (w_any _ w5a).mono ?_
  rintro e w5c ⟨g5, rfl, hg5, hb5c⟩
  have A5 : AgreeOn (r + 1) w5a.heap.size w5a w5c := AgreeOn.below hb5c (Nat.le_refl _) (Nat.le_refl _)
  have T5c := T5a.later hb5c
  obtain ⟨gff5, gcc5, hgee5⟩ : ∃ f c, g5 = .func (.func f) #[] c := by obtain ⟨f, c, h, _⟩ := hg5; exact ⟨f, c, h⟩
  subst hgee5
  have R5 : RowOk (r + 1) w5c.heap.size w5c (5, .agg #[.bool false, .bool false, .func (.func uff5) #[] ucc5, .func (.func 42) #[] #[], .func (.func gff5) #[] gcc5]) := ⟨⟨_, _, _, rfl, G5.later A5 (Nat.le_refl _) hb5c.size, always_any _ _ _, hg5.later (AgreeOn.refl (Nat.le_refl _)) T5a.lt (Nat.le_refl _)⟩⟩
  clear A5 hg5 hb5c T5a G5
  go_wp2_with (refine wpList_row w0 _ rfl _ _ _ rfl r 4 5 (.agg #[.bool false, .bool false, .func (.func uff5) #[] ucc5, .func (.func 42) #[] #[], .func (.func gff5) #[] gcc5]) rfl rfl rfl T5c rfl R5 ?_; intro w5 T5; clear T5c R5)
  -- kind 6
  refine (only_any _ _ w5 used8).mono ?_
  rintro e w6a ⟨u6, rfl, hu6, hb6a⟩
  have T6a := T5.later hb6a
  have hl6 : r + 1 ≤ w5.heap.size := T5.lt
  have G6 : FnB (r + 1) w6a.heap.size u6 _ w6a := hu6.later (AgreeOn.refl (Nat.le_refl _)) hl6 (Nat.le_refl _)
  clear T5 hu6 hb6a
  obtain ⟨uf6, uc6, hue6⟩ : ∃ f c, u6 = .func (.func f) #[] c := by obtain ⟨f, c, h, _⟩ := G6; exact ⟨f, c, h⟩
  subst hue6
  go_wp2_with fail
  refine (also_any (r + 1) _ _ _ _ _ T6a.lt G6 (pred9 _ _ _)).mono ?_
  rintro e w6b ⟨v6, rfl, H6, hb6b⟩
  have T6b := T6a.later hb6b
  clear T6a G6 hb6b hl6
  obtain ⟨uff6, ucc6, huee6⟩ : ∃ f c, v6 = .func (.func f) #[] c := by obtain ⟨f, c, h, _⟩ := H6; exact ⟨f, c, h⟩
  subst huee6
  go_wp2_with fail
  refine (w_any _ w6b).mono ?_
  rintro e w6c ⟨g6, rfl, hg6, hb6c⟩
  have A6 : AgreeOn (r + 1) w6b.heap.size w6b w6c := AgreeOn.below hb6c (Nat.le_refl _) (Nat.le_refl _)
  have T6c := T6b.later hb6c
  obtain ⟨gff6, gcc6, hgee6⟩ : ∃ f c, g6 = .func (.func f) #[] c := by obtain ⟨f, c, h, _⟩ := hg6; exact ⟨f, c, h⟩
  subst hgee6
  have R6 : RowOk (r + 1) w6c.heap.size w6c (6, .agg #[.bool true, .bool false, .func (.func uff6) #[] ucc6, .func (.func 42) #[] #[], .func (.func gff6) #[] gcc6]) := ⟨⟨_, _, _, rfl, H6.later A6 (Nat.le_refl _) hb6c.size, always_any _ _ _, hg6.later (AgreeOn.refl (Nat.le_refl _)) T6b.lt (Nat.le_refl _)⟩⟩
  clear A6 hg6 hb6c T6b H6
  go_wp2_with (refine wpList_row w0 _ rfl _ _ _ rfl r 5 6 (.agg #[.bool true, .bool false, .func (.func uff6) #[] ucc6, .func (.func 42) #[] #[], .func (.func gff6) #[] gcc6]) rfl rfl rfl T6c rfl R6 ?_; intro w6 T6; clear T6c R6)
  -- kind 7
  refine (only_any _ _ w6 used1).mono ?_
  rintro e w7a ⟨u7, rfl, hu7, hb7a⟩
  have T7a := T6.later hb7a
  have hl7 : r + 1 ≤ w6.heap.size := T6.lt
  have G7 : FnB (r + 1) w7a.heap.size u7 _ w7a := hu7.later (AgreeOn.refl (Nat.le_refl _)) hl7 (Nat.le_refl _)
  clear T6 hu7 hb7a
  obtain ⟨uff7, ucc7, huee7⟩ : ∃ f c, u7 = .func (.func f) #[] c := by obtain ⟨f, c, h, _⟩ := G7; exact ⟨f, c, h⟩
  subst huee7
  go_wp2_with fail
  refine (w_any _ w7a).mono ?_
  rintro e w7c ⟨g7, rfl, hg7, hb7c⟩
  have A7 : AgreeOn (r + 1) w7a.heap.size w7a w7c := AgreeOn.below hb7c (Nat.le_refl _) (Nat.le_refl _)
  have T7c := T7a.later hb7c
  obtain ⟨gff7, gcc7, hgee7⟩ : ∃ f c, g7 = .func (.func f) #[] c := by obtain ⟨f, c, h, _⟩ := hg7; exact ⟨f, c, h⟩
  subst hgee7
  have R7 : RowOk (r + 1) w7c.heap.size w7c (7, .agg #[.bool true, .bool true, .func (.func uff7) #[] ucc7, .func (.func 42) #[] #[], .func (.func gff7) #[] gcc7]) := ⟨⟨_, _, _, rfl, G7.later A7 (Nat.le_refl _) hb7c.size, always_any _ _ _, hg7.later (AgreeOn.refl (Nat.le_refl _)) T7a.lt (Nat.le_refl _)⟩⟩
  clear A7 hg7 hb7c T7a G7
  go_wp2_with (refine wpList_row w0 _ rfl _ _ _ rfl r 6 7 (.agg #[.bool true, .bool true, .func (.func uff7) #[] ucc7, .func (.func 42) #[] #[], .func (.func gff7) #[] gcc7]) rfl rfl rfl T7c rfl R7 ?_; intro w7 T7; clear T7c R7)
  -- kind 8
  refine (only_any _ _ w7 used1).mono ?_
  rintro e w8a ⟨u8, rfl, hu8, hb8a⟩
  have T8a := T7.later hb8a
  have hl8 : r + 1 ≤ w7.heap.size := T7.lt
  have G8 : FnB (r + 1) w8a.heap.size u8 _ w8a := hu8.later (AgreeOn.refl (Nat.le_refl _)) hl8 (Nat.le_refl _)
  clear T7 hu8 hb8a
  obtain ⟨uff8, ucc8, huee8⟩ : ∃ f c, u8 = .func (.func f) #[] c := by obtain ⟨f, c, h, _⟩ := G8; exact ⟨f, c, h⟩
  subst huee8
  go_wp2_with fail
  refine (w_any _ w8a).mono ?_
  rintro e w8c ⟨g8, rfl, hg8, hb8c⟩
  have A8 : AgreeOn (r + 1) w8a.heap.size w8a w8c := AgreeOn.below hb8c (Nat.le_refl _) (Nat.le_refl _)
  have T8c := T8a.later hb8c
  obtain ⟨gff8, gcc8, hgee8⟩ : ∃ f c, g8 = .func (.func f) #[] c := by obtain ⟨f, c, h, _⟩ := hg8; exact ⟨f, c, h⟩
  subst hgee8
  have R8 : RowOk (r + 1) w8c.heap.size w8c (8, .agg #[.bool true, .bool true, .func (.func uff8) #[] ucc8, .func (.func 42) #[] #[], .func (.func gff8) #[] gcc8]) := ⟨⟨_, _, _, rfl, G8.later A8 (Nat.le_refl _) hb8c.size, always_any _ _ _, hg8.later (AgreeOn.refl (Nat.le_refl _)) T8a.lt (Nat.le_refl _)⟩⟩
  clear A8 hg8 hb8c T8a G8
  go_wp2_with (refine wpList_row w0 _ rfl _ _ _ rfl r 7 8 (.agg #[.bool true, .bool true, .func (.func uff8) #[] ucc8, .func (.func 42) #[] #[], .func (.func gff8) #[] gcc8]) rfl rfl rfl T8c rfl R8 ?_; intro w8 T8; clear T8c R8)
  -- kind 9
  refine (only_any _ _ w8 used1).mono ?_
  rintro e w9a ⟨u9, rfl, hu9, hb9a⟩
  have T9a := T8.later hb9a
  have hl9 : r + 1 ≤ w8.heap.size := T8.lt
  have G9 : FnB (r + 1) w9a.heap.size u9 _ w9a := hu9.later (AgreeOn.refl (Nat.le_refl _)) hl9 (Nat.le_refl _)
  clear T8 hu9 hb9a
  obtain ⟨uff9, ucc9, huee9⟩ : ∃ f c, u9 = .func (.func f) #[] c := by obtain ⟨f, c, h, _⟩ := G9; exact ⟨f, c, h⟩
  subst huee9
  go_wp2_with fail
  refine (w_any _ w9a).mono ?_
  rintro e w9c ⟨g9, rfl, hg9, hb9c⟩
  have A9 : AgreeOn (r + 1) w9a.heap.size w9a w9c := AgreeOn.below hb9c (Nat.le_refl _) (Nat.le_refl _)
  have T9c := T9a.later hb9c
  obtain ⟨gff9, gcc9, hgee9⟩ : ∃ f c, g9 = .func (.func f) #[] c := by obtain ⟨f, c, h, _⟩ := hg9; exact ⟨f, c, h⟩
  subst hgee9
  have R9 : RowOk (r + 1) w9c.heap.size w9c (9, .agg #[.bool true, .bool true, .func (.func uff9) #[] ucc9, .func (.func 42) #[] #[], .func (.func gff9) #[] gcc9]) := ⟨⟨_, _, _, rfl, G9.later A9 (Nat.le_refl _) hb9c.size, always_any _ _ _, hg9.later (AgreeOn.refl (Nat.le_refl _)) T9a.lt (Nat.le_refl _)⟩⟩
  clear A9 hg9 hb9c T9a G9
  go_wp2_with (refine wpList_row w0 _ rfl _ _ _ rfl r 8 9 (.agg #[.bool true, .bool true, .func (.func uff9) #[] ucc9, .func (.func 42) #[] #[], .func (.func gff9) #[] gcc9]) rfl rfl rfl T9c rfl R9 ?_; intro w9 T9; clear T9c R9)
  -- kind 10
  refine (only_any _ _ w9 used10).mono ?_
  rintro e w10a ⟨u10, rfl, hu10, hb10a⟩
  have T10a := T9.later hb10a
  have hl10 : r + 1 ≤ w9.heap.size := T9.lt
  have G10 : FnB (r + 1) w10a.heap.size u10 _ w10a := hu10.later (AgreeOn.refl (Nat.le_refl _)) hl10 (Nat.le_refl _)
  clear T9 hu10 hb10a
  obtain ⟨uf10, uc10, hue10⟩ : ∃ f c, u10 = .func (.func f) #[] c := by obtain ⟨f, c, h, _⟩ := G10; exact ⟨f, c, h⟩
  subst hue10
  go_wp2_with fail
  refine (also_any (r + 1) _ _ _ _ _ T10a.lt G10 (pred11 _ _ _)).mono ?_
  rintro e w10b ⟨v10, rfl, H10, hb10b⟩
  have T10b := T10a.later hb10b
  clear T10a G10 hb10b hl10
  obtain ⟨uff10, ucc10, huee10⟩ : ∃ f c, v10 = .func (.func f) #[] c := by obtain ⟨f, c, h, _⟩ := H10; exact ⟨f, c, h⟩
  subst huee10
  go_wp2_with fail
  refine (w_any _ w10b).mono ?_
  rintro e w10c ⟨g10, rfl, hg10, hb10c⟩
  have A10 : AgreeOn (r + 1) w10b.heap.size w10b w10c := AgreeOn.below hb10c (Nat.le_refl _) (Nat.le_refl _)
  have T10c := T10b.later hb10c
  obtain ⟨gff10, gcc10, hgee10⟩ : ∃ f c, g10 = .func (.func f) #[] c := by obtain ⟨f, c, h, _⟩ := hg10; exact ⟨f, c, h⟩
  subst hgee10
  have R10 : RowOk (r + 1) w10c.heap.size w10c (10, .agg #[.bool true, .bool false, .func (.func uff10) #[] ucc10, .func (.func 42) #[] #[], .func (.func gff10) #[] gcc10]) := ⟨⟨_, _, _, rfl, H10.later A10 (Nat.le_refl _) hb10c.size, always_any _ _ _, hg10.later (AgreeOn.refl (Nat.le_refl _)) T10b.lt (Nat.le_refl _)⟩⟩
  clear A10 hg10 hb10c T10b H10
  go_wp2_with (refine wpList_row w0 _ rfl _ _ _ rfl r 9 10 (.agg #[.bool true, .bool false, .func (.func uff10) #[] ucc10, .func (.func 42) #[] #[], .func (.func gff10) #[] gcc10]) rfl rfl rfl T10c rfl R10 ?_; intro w10 T10; clear T10c R10)
  -- kind 11
  refine (only_any _ _ w10 used12).mono ?_
  rintro e w11a ⟨u11, rfl, hu11, hb11a⟩
  have T11a := T10.later hb11a
  have hl11 : r + 1 ≤ w10.heap.size := T10.lt
  have G11 : FnB (r + 1) w11a.heap.size u11 _ w11a := hu11.later (AgreeOn.refl (Nat.le_refl _)) hl11 (Nat.le_refl _)
  clear T10 hu11 hb11a
  obtain ⟨uf11, uc11, hue11⟩ : ∃ f c, u11 = .func (.func f) #[] c := by obtain ⟨f, c, h, _⟩ := G11; exact ⟨f, c, h⟩
  subst hue11
  go_wp2_with fail
  refine (also_any (r + 1) _ _ _ _ _ T11a.lt G11 (pred13 _ _ _)).mono ?_
  rintro e w11b ⟨v11, rfl, H11, hb11b⟩
  have T11b := T11a.later hb11b
  clear T11a G11 hb11b hl11
  obtain ⟨uff11, ucc11, huee11⟩ : ∃ f c, v11 = .func (.func f) #[] c := by obtain ⟨f, c, h, _⟩ := H11; exact ⟨f, c, h⟩
  subst huee11
  go_wp2_with fail
  refine (w_any _ w11b).mono ?_
  rintro e w11c ⟨g11, rfl, hg11, hb11c⟩
  have A11 : AgreeOn (r + 1) w11b.heap.size w11b w11c := AgreeOn.below hb11c (Nat.le_refl _) (Nat.le_refl _)
  have T11c := T11b.later hb11c
  obtain ⟨gff11, gcc11, hgee11⟩ : ∃ f c, g11 = .func (.func f) #[] c := by obtain ⟨f, c, h, _⟩ := hg11; exact ⟨f, c, h⟩
  subst hgee11
  have R11 : RowOk (r + 1) w11c.heap.size w11c (11, .agg #[.bool true, .bool false, .func (.func uff11) #[] ucc11, .func (.func 42) #[] #[], .func (.func gff11) #[] gcc11]) := ⟨⟨_, _, _, rfl, H11.later A11 (Nat.le_refl _) hb11c.size, always_any _ _ _, hg11.later (AgreeOn.refl (Nat.le_refl _)) T11b.lt (Nat.le_refl _)⟩⟩
  clear A11 hg11 hb11c T11b H11
  go_wp2_with (refine wpList_row w0 _ rfl _ _ _ rfl r 10 11 (.agg #[.bool true, .bool false, .func (.func uff11) #[] ucc11, .func (.func 42) #[] #[], .func (.func gff11) #[] gcc11]) rfl rfl rfl T11c rfl R11 ?_; intro w11 T11; clear T11c R11)
  -- kind 12
  refine (only_any _ _ w11 used14).mono ?_
  rintro e w12a ⟨u12, rfl, hu12, hb12a⟩
  have T12a := T11.later hb12a
  have hl12 : r + 1 ≤ w11.heap.size := T11.lt
  have G12 : FnB (r + 1) w12a.heap.size u12 _ w12a := hu12.later (AgreeOn.refl (Nat.le_refl _)) hl12 (Nat.le_refl _)
  clear T11 hu12 hb12a
  obtain ⟨uff12, ucc12, huee12⟩ : ∃ f c, u12 = .func (.func f) #[] c := by obtain ⟨f, c, h, _⟩ := G12; exact ⟨f, c, h⟩
  subst huee12
  go_wp2_with fail
  refine (w_any _ w12a).mono ?_
  rintro e w12c ⟨g12, rfl, hg12, hb12c⟩
  have A12 : AgreeOn (r + 1) w12a.heap.size w12a w12c := AgreeOn.below hb12c (Nat.le_refl _) (Nat.le_refl _)
  have T12c := T12a.later hb12c
  obtain ⟨gff12, gcc12, hgee12⟩ : ∃ f c, g12 = .func (.func f) #[] c := by obtain ⟨f, c, h, _⟩ := hg12; exact ⟨f, c, h⟩
  subst hgee12
  have R12 : RowOk (r + 1) w12c.heap.size w12c (12, .agg #[.bool true, .bool false, .func (.func uff12) #[] ucc12, .func (.func 58) #[] #[], .func (.func gff12) #[] gcc12]) := ⟨⟨_, _, _, rfl, G12.later A12 (Nat.le_refl _) hb12c.size, proto_any _ _ _, hg12.later (AgreeOn.refl (Nat.le_refl _)) T12a.lt (Nat.le_refl _)⟩⟩
  clear A12 hg12 hb12c T12a G12
  go_wp2_with (refine wpList_row w0 _ rfl _ _ _ rfl r 11 12 (.agg #[.bool true, .bool false, .func (.func uff12) #[] ucc12, .func (.func 58) #[] #[], .func (.func gff12) #[] gcc12]) rfl rfl rfl T12c rfl R12 ?_; intro w12 T12; clear T12c R12)
  -- kind 13
  refine (only_any _ _ w12 used16).mono ?_
  rintro e w13a ⟨u13, rfl, hu13, hb13a⟩
  have T13a := T12.later hb13a
  have hl13 : r + 1 ≤ w12.heap.size := T12.lt
  have G13 : FnB (r + 1) w13a.heap.size u13 _ w13a := hu13.later (AgreeOn.refl (Nat.le_refl _)) hl13 (Nat.le_refl _)
  clear T12 hu13 hb13a
  obtain ⟨uf13, uc13, hue13⟩ : ∃ f c, u13 = .func (.func f) #[] c := by obtain ⟨f, c, h, _⟩ := G13; exact ⟨f, c, h⟩
  subst hue13
  go_wp2_with fail
  refine (also_any (r + 1) _ _ _ _ _ T13a.lt G13 (pred17 _ _ _)).mono ?_
  rintro e w13b ⟨v13, rfl, H13, hb13b⟩
  have T13b := T13a.later hb13b
  clear T13a G13 hb13b hl13
  obtain ⟨uff13, ucc13, huee13⟩ : ∃ f c, v13 = .func (.func f) #[] c := by obtain ⟨f, c, h, _⟩ := H13; exact ⟨f, c, h⟩
  subst huee13
  go_wp2_with fail
  refine (w_any _ w13b).mono ?_
  rintro e w13c ⟨g13, rfl, hg13, hb13c⟩
  have A13 : AgreeOn (r + 1) w13b.heap.size w13b w13c := AgreeOn.below hb13c (Nat.le_refl _) (Nat.le_refl _)
  have T13c := T13b.later hb13c
  obtain ⟨gff13, gcc13, hgee13⟩ : ∃ f c, g13 = .func (.func f) #[] c := by obtain ⟨f, c, h, _⟩ := hg13; exact ⟨f, c, h⟩
  subst hgee13
  have R13 : RowOk (r + 1) w13c.heap.size w13c (13, .agg #[.bool true, .bool false, .func (.func uff13) #[] ucc13, .func (.func 61) #[] #[], .func (.func gff13) #[] gcc13]) := ⟨⟨_, _, _, rfl, H13.later A13 (Nat.le_refl _) hb13c.size, next_any _ _ _, hg13.later (AgreeOn.refl (Nat.le_refl _)) T13b.lt (Nat.le_refl _)⟩⟩
  clear A13 hg13 hb13c T13b H13
  go_wp2_with (refine wpList_row w0 _ rfl _ _ _ rfl r 12 13 (.agg #[.bool true, .bool false, .func (.func uff13) #[] ucc13, .func (.func 61) #[] #[], .func (.func gff13) #[] gcc13]) rfl rfl rfl T13c rfl R13 ?_; intro w13 T13; clear T13c R13)
  -- kind 14
  refine (only_any _ _ w13 used19).mono ?_
  rintro e w14a ⟨u14, rfl, hu14, hb14a⟩
  have T14a := T13.later hb14a
  have hl14 : r + 1 ≤ w13.heap.size := T13.lt
  have G14 : FnB (r + 1) w14a.heap.size u14 _ w14a := hu14.later (AgreeOn.refl (Nat.le_refl _)) hl14 (Nat.le_refl _)
  clear T13 hu14 hb14a
  obtain ⟨uf14, uc14, hue14⟩ : ∃ f c, u14 = .func (.func f) #[] c := by obtain ⟨f, c, h, _⟩ := G14; exact ⟨f, c, h⟩
  subst hue14
  go_wp2_with fail
  refine (also_any (r + 1) _ _ _ _ _ T14a.lt G14 (tnet_any _ _ _)).mono ?_
  rintro e w14b ⟨v14, rfl, H14, hb14b⟩
  have T14b := T14a.later hb14b
  clear T14a G14 hb14b hl14
  obtain ⟨uff14, ucc14, huee14⟩ : ∃ f c, v14 = .func (.func f) #[] c := by obtain ⟨f, c, h, _⟩ := H14; exact ⟨f, c, h⟩
  subst huee14
  go_wp2_with fail
  refine (by_any _ _ w14b).mono ?_
  rintro e w14c ⟨g14, rfl, hg14, hb14c⟩
  have A14 : AgreeOn (r + 1) w14b.heap.size w14b w14c := AgreeOn.below hb14c (Nat.le_refl _) (Nat.le_refl _)
  have T14c := T14b.later hb14c
  obtain ⟨gff14, gcc14, hgee14⟩ : ∃ f c, g14 = .func (.func f) #[] c := by obtain ⟨f, c, h, _⟩ := hg14; exact ⟨f, c, h⟩
  subst hgee14
  have R14 : RowOk (r + 1) w14c.heap.size w14c (14, .agg #[.bool true, .bool false, .func (.func uff14) #[] ucc14, .func (.func 42) #[] #[], .func (.func gff14) #[] gcc14]) := ⟨⟨_, _, _, rfl, H14.later A14 (Nat.le_refl _) hb14c.size, always_any _ _ _, hg14.later (AgreeOn.refl (Nat.le_refl _)) T14b.lt (Nat.le_refl _)⟩⟩
  clear A14 hg14 hb14c T14b H14
  go_wp2_with (refine wpList_row w0 _ rfl _ _ _ rfl r 13 14 (.agg #[.bool true, .bool false, .func (.func uff14) #[] ucc14, .func (.func 42) #[] #[], .func (.func gff14) #[] gcc14]) rfl rfl rfl T14c rfl R14 ?_; intro w14 T14; clear T14c R14)
  -- kind 15
  refine (only_any _ _ w14 used20).mono ?_
  rintro e w15a ⟨u15, rfl, hu15, hb15a⟩
  have T15a := T14.later hb15a
  have hl15 : r + 1 ≤ w14.heap.size := T14.lt
  have G15 : FnB (r + 1) w15a.heap.size u15 _ w15a := hu15.later (AgreeOn.refl (Nat.le_refl _)) hl15 (Nat.le_refl _)
  clear T14 hu15 hb15a
  obtain ⟨uf15, uc15, hue15⟩ : ∃ f c, u15 = .func (.func f) #[] c := by obtain ⟨f, c, h, _⟩ := G15; exact ⟨f, c, h⟩
  subst hue15
  go_wp2_with fail
  refine (also_any (r + 1) _ _ _ _ _ T15a.lt G15 (tnet_any _ _ _)).mono ?_
  rintro e w15b ⟨v15, rfl, H15, hb15b⟩
  have T15b := T15a.later hb15b
  clear T15a G15 hb15b hl15
  obtain ⟨uff15, ucc15, huee15⟩ : ∃ f c, v15 = .func (.func f) #[] c := by obtain ⟨f, c, h, _⟩ := H15; exact ⟨f, c, h⟩
  subst huee15
  go_wp2_with fail
  refine (by_any _ _ w15b).mono ?_
  rintro e w15c ⟨g15, rfl, hg15, hb15c⟩
  have A15 : AgreeOn (r + 1) w15b.heap.size w15b w15c := AgreeOn.below hb15c (Nat.le_refl _) (Nat.le_refl _)
  have T15c := T15b.later hb15c
  obtain ⟨gff15, gcc15, hgee15⟩ : ∃ f c, g15 = .func (.func f) #[] c := by obtain ⟨f, c, h, _⟩ := hg15; exact ⟨f, c, h⟩
  subst hgee15
  have R15 : RowOk (r + 1) w15c.heap.size w15c (15, .agg #[.bool true, .bool false, .func (.func uff15) #[] ucc15, .func (.func 66) #[] #[], .func (.func gff15) #[] gcc15]) := ⟨⟨_, _, _, rfl, H15.later A15 (Nat.le_refl _) hb15c.size, bits_any _ _ _, hg15.later (AgreeOn.refl (Nat.le_refl _)) T15b.lt (Nat.le_refl _)⟩⟩
  clear A15 hg15 hb15c T15b H15
  go_wp2_with (refine wpList_row w0 _ rfl _ _ _ rfl r 14 15 (.agg #[.bool true, .bool false, .func (.func uff15) #[] ucc15, .func (.func 66) #[] #[], .func (.func gff15) #[] gcc15]) rfl rfl rfl T15c rfl R15 ?_; intro w15 T15; clear T15c R15)
  -- kind 16
  refine (only_any _ _ w15 used21).mono ?_
  rintro e w16a ⟨u16, rfl, hu16, hb16a⟩
  have T16a := T15.later hb16a
  have hl16 : r + 1 ≤ w15.heap.size := T15.lt
  have G16 : FnB (r + 1) w16a.heap.size u16 _ w16a := hu16.later (AgreeOn.refl (Nat.le_refl _)) hl16 (Nat.le_refl _)
  clear T15 hu16 hb16a
  obtain ⟨uf16, uc16, hue16⟩ : ∃ f c, u16 = .func (.func f) #[] c := by obtain ⟨f, c, h, _⟩ := G16; exact ⟨f, c, h⟩
  subst hue16
  go_wp2_with fail
  refine (also_any (r + 1) _ _ _ _ _ T16a.lt G16 (port_any _ _ _)).mono ?_
  rintro e w16b ⟨v16, rfl, H16, hb16b⟩
  have T16b := T16a.later hb16b
  clear T16a G16 hb16b hl16
  obtain ⟨uff16, ucc16, huee16⟩ : ∃ f c, v16 = .func (.func f) #[] c := by obtain ⟨f, c, h, _⟩ := H16; exact ⟨f, c, h⟩
  subst huee16
  go_wp2_with fail
  refine (w_any _ w16b).mono ?_
  rintro e w16c ⟨g16, rfl, hg16, hb16c⟩
  have A16 : AgreeOn (r + 1) w16b.heap.size w16b w16c := AgreeOn.below hb16c (Nat.le_refl _) (Nat.le_refl _)
  have T16c := T16b.later hb16c
  obtain ⟨gff16, gcc16, hgee16⟩ : ∃ f c, g16 = .func (.func f) #[] c := by obtain ⟨f, c, h, _⟩ := hg16; exact ⟨f, c, h⟩
  subst hgee16
  have R16 : RowOk (r + 1) w16c.heap.size w16c (16, .agg #[.bool true, .bool false, .func (.func uff16) #[] ucc16, .func (.func 69) #[] #[], .func (.func gff16) #[] gcc16]) := ⟨⟨_, _, _, rfl, H16.later A16 (Nat.le_refl _) hb16c.size, portfit_any _ _ _, hg16.later (AgreeOn.refl (Nat.le_refl _)) T16b.lt (Nat.le_refl _)⟩⟩
  clear A16 hg16 hb16c T16b H16
  go_wp2_with (refine wpList_row w0 _ rfl _ _ _ rfl r 15 16 (.agg #[.bool true, .bool false, .func (.func uff16) #[] ucc16, .func (.func 69) #[] #[], .func (.func gff16) #[] gcc16]) rfl rfl rfl T16c rfl R16 ?_; intro w16 T16; clear T16c R16)
  go_ret
  exact ⟨r, rfl, T16⟩
end Go.Proofs.Ytedhlofmkehfkaa
