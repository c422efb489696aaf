/- The type api.Node as a Lean structure, its cells, and the run of each operation on a whole node (load, store, build, ==) over this seat's program. Plain lemmas: no statement of a law. -/
import Derived.Test.YtedhlofmkehfkaaRows
import Derived.WalkKit
import Derived.WalkSpells
import Derived.WalkLawsBesides
namespace Go.Proofs.Ytedhlofmkehfkaa
open Go.RowKit
set_option linter.unusedVariables false
set_option linter.unusedSimpArgs false

/-- Sixteen bytes. -/
structure A16 where
  (b0 b1 b2 b3 b4 b5 b6 b7 b8 b9 b10 b11 b12 b13 b14 b15 : Int)
  deriving DecidableEq
def A16.zero : A16 := ⟨0, 0, 0, 0, 0, 0, 0, 0, 0, 0, 0, 0, 0, 0, 0, 0⟩
def A16.list (a : A16) : List Int := [a.b0, a.b1, a.b2, a.b3, a.b4, a.b5, a.b6, a.b7, a.b8, a.b9, a.b10, a.b11, a.b12, a.b13, a.b14, a.b15]
/-- A node. -/
structure Node where
  (kind op n m size of side : Int)
  addr : A16
  bits : Int
  deriving DecidableEq
def Node.zero : Node := ⟨0, 0, 0, 0, 0, 0, 0, A16.zero, 0⟩
instance : Inhabited Node := ⟨Node.zero⟩
def cell8 (x : Int) : Value := .int .u8 x
def i64v (x : Int) : Value := .int .i64 x
def u32v (x : Int) : Value := .int .u32 x
/-- The node's cells. -/
def encL (x : Node) : List Value :=
  [.int .i64 x.kind, .int .i64 x.op, .int .u32 x.n, .int .u32 x.m, .int .i64 x.size, .int .i64 x.of, .int .i64 x.side,
   .int .u8 x.addr.b0, .int .u8 x.addr.b1, .int .u8 x.addr.b2, .int .u8 x.addr.b3, .int .u8 x.addr.b4, .int .u8 x.addr.b5, .int .u8 x.addr.b6, .int .u8 x.addr.b7,
   .int .u8 x.addr.b8, .int .u8 x.addr.b9, .int .u8 x.addr.b10, .int .u8 x.addr.b11, .int .u8 x.addr.b12, .int .u8 x.addr.b13, .int .u8 x.addr.b14, .int .u8 x.addr.b15,
   .int .i64 x.bits]
def enc (x : Node) : Array Value := (encL x).toArray
/-- The sixteen cells of an address. -/
def encA (a : A16) : Array Value :=
  #[.int .u8 a.b0, .int .u8 a.b1, .int .u8 a.b2, .int .u8 a.b3, .int .u8 a.b4, .int .u8 a.b5, .int .u8 a.b6, .int .u8 a.b7,
    .int .u8 a.b8, .int .u8 a.b9, .int .u8 a.b10, .int .u8 a.b11, .int .u8 a.b12, .int .u8 a.b13, .int .u8 a.b14, .int .u8 a.b15]
@[go_sem] theorem enc_size (x : Node) : (enc x).size = 24 := rfl
theorem encL_length (x : Node) : (encL x).length = 24 := rfl
theorem enc_toList (x : Node) : (enc x).toList = encL x := rfl
theorem enc_ne (x : Node) : ¬ enc x = #[] := fun h => by have := congrArg Array.size h; simp [enc_size] at this
theorem enc_inj {x y : Node} (h : enc x = enc y) : x = y := by
  obtain ⟨a1, a2, a3, a4, a5, a6, a7, ⟨a8, a9, a10, a11, a12, a13, a14, a15, a16, a17, a18, a19, a20, a21, a22, a23⟩, a24⟩ := x
  obtain ⟨c1, c2, c3, c4, c5, c6, c7, ⟨c8, c9, c10, c11, c12, c13, c14, c15, c16, c17, c18, c19, c20, c21, c22, c23⟩, c24⟩ := y
  simpa [enc, encL, and_assoc] using h
section
variable (x : Node)
@[go_sem] theorem enc0 : (enc x)[0]? = some (.int .i64 x.kind) := rfl
@[go_sem] theorem enc1 : (enc x)[1]? = some (.int .i64 x.op) := rfl
@[go_sem] theorem enc2 : (enc x)[2]? = some (.int .u32 x.n) := rfl
@[go_sem] theorem enc3 : (enc x)[3]? = some (.int .u32 x.m) := rfl
@[go_sem] theorem enc4 : (enc x)[4]? = some (.int .i64 x.size) := rfl
@[go_sem] theorem enc5 : (enc x)[5]? = some (.int .i64 x.of) := rfl
@[go_sem] theorem enc6 : (enc x)[6]? = some (.int .i64 x.side) := rfl
@[go_sem] theorem enc7 : (enc x)[7]? = some (.int .u8 x.addr.b0) := rfl
@[go_sem] theorem enc8 : (enc x)[8]? = some (.int .u8 x.addr.b1) := rfl
@[go_sem] theorem enc9 : (enc x)[9]? = some (.int .u8 x.addr.b2) := rfl
@[go_sem] theorem enc10 : (enc x)[10]? = some (.int .u8 x.addr.b3) := rfl
@[go_sem] theorem enc11 : (enc x)[11]? = some (.int .u8 x.addr.b4) := rfl
@[go_sem] theorem enc12 : (enc x)[12]? = some (.int .u8 x.addr.b5) := rfl
@[go_sem] theorem enc13 : (enc x)[13]? = some (.int .u8 x.addr.b6) := rfl
@[go_sem] theorem enc14 : (enc x)[14]? = some (.int .u8 x.addr.b7) := rfl
@[go_sem] theorem enc15 : (enc x)[15]? = some (.int .u8 x.addr.b8) := rfl
@[go_sem] theorem enc16 : (enc x)[16]? = some (.int .u8 x.addr.b9) := rfl
@[go_sem] theorem enc17 : (enc x)[17]? = some (.int .u8 x.addr.b10) := rfl
@[go_sem] theorem enc18 : (enc x)[18]? = some (.int .u8 x.addr.b11) := rfl
@[go_sem] theorem enc19 : (enc x)[19]? = some (.int .u8 x.addr.b12) := rfl
@[go_sem] theorem enc20 : (enc x)[20]? = some (.int .u8 x.addr.b13) := rfl
@[go_sem] theorem enc21 : (enc x)[21]? = some (.int .u8 x.addr.b14) := rfl
@[go_sem] theorem enc22 : (enc x)[22]? = some (.int .u8 x.addr.b15) := rfl
@[go_sem] theorem enc23 : (enc x)[23]? = some (.int .i64 x.bits) := rfl
@[go_sem] theorem set0 (v : Int) : (enc x).setIfInBounds 0 (.int .i64 v) = enc { x with kind := v } := rfl
@[go_sem] theorem set1 (v : Int) : (enc x).setIfInBounds 1 (.int .i64 v) = enc { x with op := v } := rfl
@[go_sem] theorem set2 (v : Int) : (enc x).setIfInBounds 2 (.int .u32 v) = enc { x with n := v } := rfl
@[go_sem] theorem set3 (v : Int) : (enc x).setIfInBounds 3 (.int .u32 v) = enc { x with m := v } := rfl
@[go_sem] theorem set4 (v : Int) : (enc x).setIfInBounds 4 (.int .i64 v) = enc { x with size := v } := rfl
@[go_sem] theorem set5 (v : Int) : (enc x).setIfInBounds 5 (.int .i64 v) = enc { x with of := v } := rfl
@[go_sem] theorem set6 (v : Int) : (enc x).setIfInBounds 6 (.int .i64 v) = enc { x with side := v } := rfl
@[go_sem] theorem set23 (v : Int) : (enc x).setIfInBounds 23 (.int .i64 v) = enc { x with bits := v } := rfl
end
theorem enc_oneCell (x : Node) : (enc x).all (·.oneCell') = true := by simp [enc, encL, Value.oneCell']
theorem encL_oneCell (x : Node) : ∀ v ∈ encL x, v.oneCell' = true := by
  intro v hv
  have := Array.all_eq_true_iff_forall_mem.1 (enc_oneCell x) v
  exact this (by simpa [enc] using hv)

/-! ### A node in memory -/
/-- What lies at an address, as a node. -/
def rdInt : Option Value → Int
  | some (.int _ x) => x
  | _ => 0
def World.nodeOr (w : World) (a : Addr) : Node :=
  ⟨rdInt (w.cell? (a.add 0)), rdInt (w.cell? (a.add 1)), rdInt (w.cell? (a.add 2)), rdInt (w.cell? (a.add 3)), rdInt (w.cell? (a.add 4)), rdInt (w.cell? (a.add 5)), rdInt (w.cell? (a.add 6)),
    ⟨rdInt (w.cell? (a.add 7)), rdInt (w.cell? (a.add 8)), rdInt (w.cell? (a.add 9)), rdInt (w.cell? (a.add 10)), rdInt (w.cell? (a.add 11)), rdInt (w.cell? (a.add 12)), rdInt (w.cell? (a.add 13)), rdInt (w.cell? (a.add 14)),
     rdInt (w.cell? (a.add 15)), rdInt (w.cell? (a.add 16)), rdInt (w.cell? (a.add 17)), rdInt (w.cell? (a.add 18)), rdInt (w.cell? (a.add 19)), rdInt (w.cell? (a.add 20)), rdInt (w.cell? (a.add 21)), rdInt (w.cell? (a.add 22))⟩,
    rdInt (w.cell? (a.add 23))⟩
/-- At an address lies this node. -/
def NodeIn (w : World) (a : Addr) (x : Node) : Prop := ∀ j v, (encL x)[j]? = some v → w.cell? (a.add j) = some v
open Classical in
/-- The node that lies at an address. -/
noncomputable def nodeAt (w : World) (a : Addr) : Option Node := if NodeIn w a (World.nodeOr w a) then some (World.nodeOr w a) else none
theorem nodeOr_of {w : World} {a : Addr} {x : Node} (h : NodeIn w a x) : World.nodeOr w a = x := by
  have g : ∀ j, j < 24 → w.cell? (a.add j) = (encL x)[j]? := fun j hj => by
    have hl : j < (encL x).length := hj
    rw [List.getElem?_eq_getElem hl]
    exact h j _ (List.getElem?_eq_getElem hl)
  simp [World.nodeOr, g, encL, rdInt]
theorem nodeAt_of {w : World} {a : Addr} {x : Node} (h : NodeIn w a x) : nodeAt w a = some x := by
  unfold nodeAt
  rw [nodeOr_of h, if_pos h]
theorem nodeIn_of {w : World} {a : Addr} {x : Node} (h : nodeAt w a = some x) : NodeIn w a x := by
  unfold nodeAt at h
  split at h
  · rename_i hn
    rw [Option.some.inj h] at hn
    exact hn
  · cases h
theorem add_plain (b o j : Nat) : (⟨b, o, none⟩ : Addr).add j = ⟨b, o + j, none⟩ := by unfold Addr.add; split <;> simp_all
theorem add_block (a : Addr) (j : Nat) : (a.add j).block = a.block := by unfold Addr.add; split <;> rfl
/-- A block that holds a node. -/
theorem nodeIn_row {w : World} {b : Nat} {x : Node} {t : TypeId} {fr : Nat × Nat} (h : w.heap[b]? = some (.cells (enc x) t fr)) : NodeIn w ⟨b, 0, none⟩ x := by
  intro j v hv
  rw [add_plain, Nat.zero_add, cell_of_row w b j _ t fr h, ← hv]
  simp [enc]
theorem nodeAt_row {w : World} {b : Nat} {x : Node} {t : TypeId} {fr : Nat × Nat} (h : w.heap[b]? = some (.cells (enc x) t fr)) : nodeAt w ⟨b, 0, none⟩ = some x := nodeAt_of (nodeIn_row h)
@[go_sem] theorem nodeAt_new (w : World) (x : Node) (t : TypeId) : nodeAt (w.alloc (.cells (enc x) t)) ⟨w.heap.size, 0, none⟩ = some x := nodeAt_row (heap_alloc_new w _)
theorem nodeAt_congr {w w' : World} {a : Addr} (h : w'.heap[a.block]? = w.heap[a.block]?) : nodeAt w' a = nodeAt w a := by
  have hc : ∀ j, w'.cell? (a.add j) = w.cell? (a.add j) := fun j => World.cell?_of_block (by rw [add_block]; exact h)
  have e : World.nodeOr w' a = World.nodeOr w a := by unfold World.nodeOr; simp only [hc]
  unfold nodeAt
  rw [e]
  have e2 : NodeIn w' a (World.nodeOr w a) ↔ NodeIn w a (World.nodeOr w a) := by unfold NodeIn; simp only [hc]
  by_cases hN : NodeIn w a (World.nodeOr w a)
  · rw [if_pos hN, if_pos (e2.2 hN)]
  · rw [if_neg hN, if_neg fun h => hN (e2.1 h)]
theorem nodeAt_lt {w : World} {a : Addr} {x : Node} (h : nodeAt w a = some x) : a.block < w.heap.size := by
  have := nodeIn_of h 0 _ rfl
  have h2 := block_lt_of_cell this
  rwa [add_block] at h2
@[go_sem] theorem nodeAt_alloc {w : World} {a : Addr} (o : Obj) (h : a.block < w.heap.size) : nodeAt (w.alloc o) a = nodeAt w a := nodeAt_congr (Below.heap_alloc w o _ h)
theorem nodeAt_below {B : Nat} {w w' : World} {a : Addr} (hb : Below B w w') (h : a.block < B) : nodeAt w' a = nodeAt w a := nodeAt_congr (hb.block _ h)
theorem nodeAt_later {w w' : World} {a : Addr} {x : Node} (hb : Below w.heap.size w w') (h : nodeAt w a = some x) : nodeAt w' a = some x := (nodeAt_below hb (nodeAt_lt h)).trans h
@[go_sem] theorem nodeAt_drew (w : World) (a : Addr) : nodeAt w.drew a = nodeAt w a := nodeAt_congr rfl
@[go_sem] theorem nodeAt_drewN (w : World) (n : Nat) (a : Addr) : nodeAt (w.drewN n) a = nodeAt w a := nodeAt_congr rfl
@[go_sem] theorem nodeAt_setCell {w : World} {a p : Addr} (v : Value) (h : a.block ≠ p.block) : nodeAt (w.setCell p v) a = nodeAt w a := nodeAt_congr (Below.heap_setCell w p v _ h)

theorem setRow_alloc_new (w : World) (c c' : Array Value) (t : TypeId) : (w.alloc (.cells c t)).setRow w.heap.size c' = w.alloc (.cells c' t) := by
  simp only [World.setRow, World.alloc]
  congr 1
  apply Array.ext_getElem?
  intro i
  rw [Array.getElem?_modify]
  by_cases h : w.heap.size = i
  · subst h
    simp
  · have h' : ¬ i = w.heap.size := fun e => h e.symm
    simp [h, h', Array.getElem?_push]

/-! ### The operations -/
section
variable (w : World)
theorem run_loadVar_node (a : Addr) (x : Node) (h : nodeAt w a = some x) : (loadVar 40 a).run Try.prog w = .ok (.agg (enc x)) w := by
  have hl := run_loadCells_list (P := Try.prog) w a (encL x) (nodeIn_of h)
  simp only [loadVar, Sem.run_bind, Try.isAgg40, Try.sizeOf40, Result.andThen_ok, if_true]
  rw [encL_length] at hl
  rw [hl]
  rfl
/-- A whole node, loaded and stored: names that the walk doesn't open. -/
def loadNode (v : Value) : Sem Value := Instr.loadAt 40 v
def storeNode (v x : Value) : Sem Unit := Instr.storeAt 40 v x
@[go_sem ↓] theorem execOp_load_node (ρ : Operand → Value) (dst : Option Tmp) (x : Operand) (ty : TypeId) (pos : String) (after : Array Edge) (guard : Option (Nat × Bool)) :
    execOp ρ { dst, op := .load 40 x, type := ty, pos, after, guard } = (do pure (.value (← loadNode (ρ x)))) := rfl
@[go_sem ↓] theorem execOp_store_node (ρ : Operand → Value) (dst : Option Tmp) (x y : Operand) (ty : TypeId) (pos : String) (after : Array Edge) (guard : Option (Nat × Bool)) :
    execOp ρ { dst, op := .store 40 x y, type := ty, pos, after, guard } = (do storeNode (ρ x) (ρ y); pure .skip) := rfl
@[go_sem] theorem run_loadNode (a : Addr) (h : (nodeAt w a).isSome = true) : (loadNode (.pointer (some a))).run Try.prog w = .ok (.agg (enc ((nodeAt w a).getD Node.zero))) w := by
  obtain ⟨x, hx⟩ := Option.isSome_iff_exists.1 h
  simp only [loadNode, Instr.loadAt, Instr.sureAddr, Sem.run_bind, Sem.run_pure, Result.andThen_ok]
  rw [run_loadVar_node w a x hx, hx]
  rfl
theorem nodeInfo : (Try.prog.info? 40).map (·.size) = some 24 := by kernel_rfl
/-- A whole node, stored over the block that was made last. -/
@[go_sem] theorem run_storeNode_new (c : Array Value) (x : Node) (hc : c.size = 24) :
    (storeNode (.pointer (some ⟨w.heap.size, 0, none⟩)) (.agg (enc x))).run Try.prog (w.alloc (.cells c 40)) = .ok () (w.alloc (.cells (enc x) 40)) := by
  simp only [storeNode, Instr.storeAt, Instr.sureAddr, Sem.run_bind, Sem.run_pure, Result.andThen_ok]
  have := run_storeVar_row (P := Try.prog) (w.alloc (.cells c 40)) w.heap.size 40 40 c (enc x) (heap_alloc_new w _) nodeInfo (by rw [hc, enc_size]) (enc_oneCell x)
  rw [this, setRow_alloc_new]
theorem all_range_int : ∀ (xs ys : List Int), xs.length = ys.length → ((List.range xs.length).all fun i => xs.getD i 0 == ys.getD i 0) = (xs == ys)
  | [], [], _ => rfl
  | x :: xs, y :: ys, h => by
    have ih := all_range_int xs ys (by simpa using h)
    rw [List.length_cons, List.range_succ_eq_map, List.all_cons, List.all_map]
    simp only [List.getD_cons_zero, Function.comp_def, List.getD_cons_succ, ih]
    simp [List.cons_beq_cons]
  | [], _ :: _, h => by simp at h
  | _ :: _, [], h => by simp at h
/-- '==' of two arrays of whole numbers. -/
theorem run_equalIn_ints {P : Program} (d : Nat) (t e : TypeId) (k : IntKind) (n : Nat) (ht : P.underlying t = some (.array n e)) (he : P.underlying e = some (.int k)) (hsz : ∀ w, (sizeOf e).run P w = .ok 1 w)
    (xs ys : List Int) (hx : xs.length = n) (hy : ys.length = n) :
    (Op.equalIn (d + 2) t (.agg (xs.map (Value.int k)).toArray) (.agg (ys.map (Value.int k)).toArray)).run P w = .ok (xs == ys) w := by
  rw [← all_range_int xs ys (hx.trans hy.symm), hx, List.range_eq_range', Op.equalIn]
  simp only [Sem.run_bind, run_underlying ht, Result.andThen_ok, hsz, Std.Legacy.Range.forIn_eq_forIn_range', Std.Legacy.Range.size, Nat.sub_zero, Nat.add_sub_cancel, Nat.div_one]
  have hl : ∀ i ∈ List.range' 0 n 1, i < n := fun i hi => by simpa using (List.mem_range'_1.1 hi).2
  generalize List.range' 0 n 1 = l at hl ⊢
  induction l with
  | nil => simp
  | cons i l ih =>
    have hi : i < n := hl i (by simp)
    have px : (part e (xs.map (Value.int k)).toArray (i * 1)).run P w = .ok (.int k (xs.getD i 0)) w := by
      simp [part, isAgg, run_underlying he, List.getD, List.getElem?_eq_getElem (show i < xs.length by omega)]
    have py : (part e (ys.map (Value.int k)).toArray (i * 1)).run P w = .ok (.int k (ys.getD i 0)) w := by
      simp [part, isAgg, run_underlying he, List.getD, List.getElem?_eq_getElem (show i < ys.length by omega)]
    have pe : (Op.equalIn (d + 1) e (.int k (xs.getD i 0)) (.int k (ys.getD i 0))).run P w = .ok (xs.getD i 0 == ys.getD i 0) w := run_equalIn_int w d e k k _ _ he
    simp only [List.forIn_cons, Sem.run_bind, px, py, pe, Result.andThen_ok, List.all_cons]
    cases hb : (xs.getD i 0 == ys.getD i 0)
    · simp
    · simp only [Bool.not_true, Bool.false_eq_true, if_false, Sem.run_pure, Result.andThen_ok, Bool.true_and]
      exact ih fun j hj => hl j (by simp [hj])
theorem encA_list (a : A16) : encA a = (a.list.map (Value.int .u8)).toArray := rfl
theorem run_equalIn_A16 (d : Nat) (a b : A16) : (Op.equalIn (d + 2) 38 (.agg (encA a)) (.agg (encA b))).run Try.prog w = .ok (a.list == b.list) w := by
  rw [encA_list, encA_list]
  exact run_equalIn_ints w d _ _ .u8 16 Try.underlying38 Try.underlying5 Try.sizeOf5 _ _ rfl rfl
theorem enc_addr (x : Node) : (enc x).extract 7 (7 + 16) = encA x.addr := rfl
theorem list_inj {a b : A16} (h : a.list = b.list) : a = b := by
  obtain ⟨a8, a9, a10, a11, a12, a13, a14, a15, a16, a17, a18, a19, a20, a21, a22, a23⟩ := a
  obtain ⟨c8, c9, c10, c11, c12, c13, c14, c15, c16, c17, c18, c19, c20, c21, c22, c23⟩ := b
  simpa [A16.list] using h
/-- '==' of two nodes. -/
theorem run_equalIn_node (x y : Node) : (Op.equalIn 10000 40 (.agg (enc x)) (.agg (enc y))).run Try.prog w = .ok (decide (x = y)) w := by
  rw [run_equalIn_struct w 9999 _ _ _ Try.underlying40 Try.stoodInHeld40]
  simp only [Program.fieldsOf, Try.underlying40, Op.eqFields, part, ne_eq, String.reduceEq, not_false_eq_true, if_true, Sem.run_bind, Sem.run_ite, Sem.run_pure, Result.andThen_ok]
  simp only [Try.isAgg3, Try.isAgg30, Try.isAgg38, Try.sizeOf38, Result.andThen_ok, enc0, enc1, enc2, enc3, enc4, enc5, enc6, enc23, enc_addr, if_true, if_false, Bool.false_eq_true, Sem.run_pure,
    run_equalIn_int w 9998 3 .i64 .i64 _ _ Try.underlying3, run_equalIn_int w 9998 30 .u32 .u32 _ _ Try.underlying30, run_equalIn_A16]
  have he : ∀ p q : Int, (!p == q) = true ↔ ¬ p = q := fun p q => by simp
  have hl : (!x.addr.list == y.addr.list) = true ↔ ¬ x.addr = y.addr := by
    simp only [Bool.not_eq_true', beq_eq_false_iff_ne, ne_eq]
    exact ⟨fun h e => h (by rw [e]), fun h e => h (list_inj e)⟩
  simp only [he, hl]
  obtain ⟨a1, a2, a3, a4, a5, a6, a7, a8, a9⟩ := x
  obtain ⟨c1, c2, c3, c4, c5, c6, c7, c8, c9⟩ := y
  simp only [Node.mk.injEq]
  by_cases h1 : a1 = c1
  case neg => simp [h1]
  by_cases h2 : a2 = c2
  case neg => simp [h2]
  by_cases h3 : a3 = c3
  case neg => simp [h3]
  by_cases h4 : a4 = c4
  case neg => simp [h4]
  by_cases h5 : a5 = c5
  case neg => simp [h5]
  by_cases h6 : a6 = c6
  case neg => simp [h6]
  by_cases h7 : a7 = c7
  case neg => simp [h7]
  by_cases h8 : a8 = c8
  case neg => simp [h8]
  by_cases h9 : a9 = c9
  case neg => simp [h9]
  simp [h1, h2, h3, h4, h5, h6, h7, h8, h9]
@[go_sem high] theorem run_eql_node (x y : Node) : (binOp .eql 40 (.agg (enc x)) (.agg (enc y))).run Try.prog w = .ok (.bool (decide (x = y))) w := by
  rw [run_eql_struct, run_equalIn_node]
  rfl
@[go_sem high] theorem run_neq_node (x y : Node) : (binOp .neq 40 (.agg (enc x)) (.agg (enc y))).run Try.prog w = .ok (.bool (!decide (x = y))) w := by
  rw [run_neq_struct, run_equalIn_node]
  rfl
end
/-- Twenty-four cells written out are a node. -/
@[go_sem] theorem fold_enc (k op n m size of side b0 b1 b2 b3 b4 b5 b6 b7 b8 b9 b10 b11 b12 b13 b14 b15 bits : Int) :
    (#[.int .i64 k, .int .i64 op, .int .u32 n, .int .u32 m, .int .i64 size, .int .i64 of, .int .i64 side, .int .u8 b0, .int .u8 b1, .int .u8 b2, .int .u8 b3, .int .u8 b4, .int .u8 b5, .int .u8 b6, .int .u8 b7,
      .int .u8 b8, .int .u8 b9, .int .u8 b10, .int .u8 b11, .int .u8 b12, .int .u8 b13, .int .u8 b14, .int .u8 b15, .int .i64 bits] : Array Value) =
    enc ⟨k, op, n, m, size, of, side, ⟨b0, b1, b2, b3, b4, b5, b6, b7, b8, b9, b10, b11, b12, b13, b14, b15⟩, bits⟩ := rfl
end Go.Proofs.Ytedhlofmkehfkaa
