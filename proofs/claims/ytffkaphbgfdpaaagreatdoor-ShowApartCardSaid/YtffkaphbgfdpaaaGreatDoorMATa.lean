/- ShowL, ShowT, ShowA, Said, ShowB, ShowC, ShowD, ShowE, ShowF, ShowG, ShowH, ShowI, ShowJ, ShowK0, ShowK1, ShowN, one behind the other. -/
import Derived.Test.YtffkaphbgfdpaaaGreatDoorMTc
import Derived.Test.YtffkaphbgfdpaaaGreatDoorMAb
import Derived.Test.YtffkaphbgfdpaaaGreatDoorMAa
import Derived.Test.YtffkaphbgfdpaaaGreatDoorMTa
import Derived.Deep.Light
import Derived.Deep.RegionHeld3
import Derived.Deep.DrawnRows
import Derived.Deep.MidRow
import Derived.Test.YtffkaphbgfdpaaaGreatDoorMAc
import Derived.Test.YtffkaphbgfdpaaaGreatDoorMTb
import Derived.Deep.DeepCutAuto
section
/- A filter's text: plain. -/
namespace Go.Proofs.YtffkaphbgfdpaaaGreatDoor
open Go.RowKit Go.Shelf T
set_option linter.unusedVariables false
set_option linter.unusedSimpArgs false

def rowA (op : Int) : Int := if op = 7 then 5 else if op = 8 then 6 else if op = 6 then 7 else if op = 9 ∨ op = 10 then 8 else if op = 1 ∨ op = 2 then 9 else 10
/-- A node's row in the grammar. -/
def rowK (n : Node) : Int := if n.kind = 8 then 1 else if n.kind = 7 then 2 else if n.kind = 9 then 3 else if n.kind = 6 then 4 else if n.kind = 5 then 11 else if n.kind = 4 then rowA n.op else 12
theorem rowA_range (op : Int) : 5 ≤ rowA op ∧ rowA op ≤ 10 := by unfold rowA; repeat' split
                                                                 all_goals decide
theorem rowK_range (n : Node) : 1 ≤ rowK n ∧ rowK n ≤ 12 := by
  unfold rowK
  have := rowA_range n.op
  repeat' split
  all_goals first | decide | omega
def relW : List (List UInt8) := [[], [61], [33, 61], [60], [60, 61], [62], [62, 61]]
def ariW : List (List UInt8) := [[], [43], [45], [42], [47], [37], [38], [124], [94], [60, 60], [62, 62]]
def nameW : List (List UInt8) := [[], [112, 112, 112], [105, 112], [105, 112, 54], [116, 99, 112], [117, 100, 112], [105, 99, 109, 112], [105, 99, 109, 112, 54], [108, 99, 112], [112, 97, 112], [99, 104, 97, 112], [105, 112, 99, 112], [105, 112, 54, 99, 112], [109, 112]]
def sideW : List (List UInt8) := [[], [115, 114, 99, 32], [100, 115, 116, 32]]
def wayW : List (List UInt8) := [[], [105, 110, 98, 111, 117, 110, 100], [111, 117, 116, 98, 111, 117, 110, 100]]
def at_ (l : List (List UInt8)) (i : Int) : List UInt8 := l.getD i.toNat []
/-- The word between a node's parts. -/
def signL (n : Node) : List UInt8 := if n.kind = 7 then [97, 110, 100] else if n.kind = 8 then [111, 114] else if n.kind = 6 then at_ relW n.op else at_ ariW n.op
def nameL (o : Int) : List UInt8 := at_ nameW o
def sideL (s : Int) : List UInt8 := at_ sideW s
def numL (v : Int) : List UInt8 := dcl v.toNat
def bytesA (a : A16) : List Nat := a.list.map Int.toNat
def pairsA : List Nat → List Nat
  | a :: b :: r => (a * 256 + b) :: pairsA r
  | _ => []
def addrL (n : Node) : List UInt8 := if n.of = 3 then print6L (pairsA (bytesA n.addr)) else print4L ((bytesA n.addr).take 4)
def portsL (n : Node) : List UInt8 :=
  (if n.of = 0 then nameL n.of else nameL n.of ++ [32]) ++ (sideL n.side ++ (if n.n = n.m then [112, 111, 114, 116, 32] ++ numL n.n else [112, 111, 114, 116, 114, 97, 110, 103, 101, 32] ++ (numL n.n ++ (45 :: numL n.m))))
/-- The text of a node without parts. -/
def leafL (n : Node) : List UInt8 :=
  if n.kind = 1 then numL n.n
  else if n.kind = 2 then [108, 101, 110]
  else if n.kind = 10 then at_ wayW n.side
  else if n.kind = 11 then nameL n.of
  else if n.kind = 12 then [112, 114, 111, 116, 111, 32] ++ numL n.n
  else if n.kind = 13 then nameL n.of ++ ([32, 112, 114, 111, 116, 111, 32] ++ numL n.n)
  else if n.kind = 14 then sideL n.side ++ ([104, 111, 115, 116, 32] ++ addrL n)
  else if n.kind = 15 then sideL n.side ++ ([110, 101, 116, 32] ++ (addrL n ++ (47 :: numL n.bits)))
  else portsL n
/-- May a part of row q stand as n's part without brackets? -/
def bareB (full : Bool) (n : Node) (right : Bool) (q : Int) : Bool :=
  if full then decide (q = 12)
  else if rowK n = 4 then decide (4 < q)
  else if rowK n = 3 ∨ rowK n = 11 ∨ right = false then decide (rowK n ≤ q)
  else decide (rowK n < q)
abbrev Said := List UInt8 × Nat
def putS (bare : Bool) (x : Said) : Said := if bare then x else (40 :: (x.1 ++ [41]), x.2 + 1)
def endL (n : Node) : List UInt8 := if n.size = 1 then [93] else 58 :: (numL n.size ++ [93])
end Go.Proofs.YtffkaphbgfdpaaaGreatDoor
end

section
/- A tree's text: plain. -/
namespace Go.Proofs.YtffkaphbgfdpaaaGreatDoor
open Go.RowKit Go.Shelf T
set_option linter.unusedVariables false
set_option linter.unusedSimpArgs false

/-- A tree's text, and how deep it is nested. -/
def saidT (full : Bool) : Tr → Said
  | .leaf n => (leafL n, 0)
  | .un n x =>
    if n.kind = 3 then (nameL n.of ++ (91 :: ((saidT full x).1 ++ endL n)), (saidT full x).2 + 1)
    else let y := putS (bareB full n true (rowK x.root)) (saidT full x)
      if n.kind = 5 then (45 :: y.1, y.2 + 1) else ([110, 111, 116, 32] ++ y.1, y.2 + 1)
  | .bin n x y =>
    let a := putS (bareB full n false (rowK x.root)) (saidT full x)
    let c := putS (bareB full n true (rowK y.root)) (saidT full y)
    (a.1 ++ (32 :: (signL n ++ (32 :: c.1))), max a.2 c.2)
end Go.Proofs.YtffkaphbgfdpaaaGreatDoor
end

section
/- Package show: rows, words, signs. -/
namespace Go.Proofs.YtffkaphbgfdpaaaGreatDoor
open Go.RowKit Go.Shelf Go.Deep T
set_option linter.unusedVariables false
set_option linter.unusedSimpArgs false
set_option maxRecDepth 100000

theorem arow_any (op : Int) (w : World) : Calls Tryz.prog 46 #[.int .i64 op] w fun e w' => e = .returned (.int .i64 (rowA op)) ∧ w = w' := by
  go_enter Tryz.func46, Tryz.ntmps46
  go_wp2
  all_goals
    go_ret
    refine ⟨congrArg (fun x => Ending.returned (Value.int .i64 x)) ?_, rfl⟩
    go_light
    simp_all [rowA]
theorem rowOf_any (n : Node) (w : World) : Calls Tryz.prog 26 #[.agg (enc n)] w fun e w' => e = .returned (.int .i64 (rowK n)) ∧ Below w.heap.size w w' := by
  have hB : Below w.heap.size w (w.alloc (.cells (enc n) 37)) := (Below.refl _ _).alloc (Nat.le_refl _) _
  go_enter Tryz.func26, Tryz.ntmps26
  go_wp2_with (go_at_call 46; refine (arow_any _ _).mono ?_; rintro e w2 ⟨rfl, rfl⟩)
  all_goals
    go_ret
    refine ⟨congrArg (fun x => Ending.returned (Value.int .i64 x)) ?_, hB⟩
    go_light
    simp_all [rowK]
/-- A list of words, as it is laid, and one of them. -/
theorem at_str (l : List (List UInt8)) (i : Int) (h : i.toNat < (l.map fun x => Value.string (bs x)).length) : (l.map fun x => Value.string (bs x))[i.toNat] = .string (bs (at_ l i)) := by
  rw [List.getElem_map]
  unfold at_
  rw [List.length_map] at h
  rw [List.getD_eq_getElem?_getD, List.getElem?_eq_getElem h]
  rfl
theorem name_any (o : Int) (w : World) (h0 : 0 ≤ o) (h1 : o < 14) : Calls Tryz.prog 65 #[.int .i64 o] w fun e w' => e = .returned (.string (bs (nameL o))) ∧ Below w.heap.size w w' := by
  have hB : ∀ x, Below w.heap.size w (w.alloc x) := fun x => (Below.refl _ _).alloc (Nat.le_refl _) _
  go_enter Tryz.func65, Tryz.ntmps65
  go_wp2
  go_ret
  exact ⟨congrArg Ending.returned (at_str nameW o (by show o.toNat < 14; omega)), hB _⟩
theorem side_any (s : Int) (w : World) (h0 : 0 ≤ s) (h1 : s < 3) : Calls Tryz.prog 119 #[.int .i64 s] w fun e w' => e = .returned (.string (bs (sideL s))) ∧ Below w.heap.size w w' := by
  have hB : ∀ x, Below w.heap.size w (w.alloc x) := fun x => (Below.refl _ _).alloc (Nat.le_refl _) _
  go_enter Tryz.func119, Tryz.ntmps119
  go_wp2
  go_ret
  exact ⟨congrArg Ending.returned (at_str sideW s (by show s.toNat < 3; omega)), hB _⟩
/-- The operations that a node's kind may have. -/
def signOk (n : Node) : Prop := n.kind = 7 ∨ n.kind = 8 ∨ (n.kind = 6 ∧ 0 ≤ n.op ∧ n.op < 7) ∨ (n.kind = 4 ∧ 0 ≤ n.op ∧ n.op < 11)
theorem sign_any (n : Node) (w : World) (h : signOk n) : Calls Tryz.prog 67 #[.agg (enc n)] w fun e w' => e = .returned (.string (bs (signL n))) ∧ Below w.heap.size w w' := by
  have hB1 : Below w.heap.size w (w.alloc (.cells (enc n) 37)) := (Below.refl _ _).alloc (Nat.le_refl _) _
  have hB : ∀ x, Below w.heap.size w ((w.alloc (.cells (enc n) 37)).alloc x) := fun x => hB1.alloc (by simp) _
  rcases h with h | h | ⟨h, h0, h1⟩ | ⟨h, h0, h1⟩
  · go_enter Tryz.func67, Tryz.ntmps67
    go_wp2
    go_ret
    exact ⟨by simp [signL, h]; rfl, hB1⟩
  · go_enter Tryz.func67, Tryz.ntmps67
    go_wp2
    go_ret
    exact ⟨by simp [signL, h]; rfl, hB1⟩
  · go_enter Tryz.func67, Tryz.ntmps67
    go_wp2
    go_ret
    exact ⟨(congrArg Ending.returned (at_str relW n.op (by show n.op.toNat < 7; omega))).trans (by simp [signL, h]), hB _⟩
  · go_enter Tryz.func67, Tryz.ntmps67
    go_wp2
    go_ret
    exact ⟨(congrArg Ending.returned (at_str ariW n.op (by show n.op.toNat < 11; omega))).trans (by simp [signL, h]), hB _⟩
/-- Texts, one behind the other. -/
theorem join_none : ∀ xs : List (List UInt8), Lib.join xs [] = xs.flatten
  | [] => rfl
  | [x] => by simp [Lib.join_one]
  | x :: y :: r => by
    have := join_none (y :: r)
    simp only [List.flatten_cons] at this ⊢
    rw [← this]
    rfl
def strs (xs : List (List UInt8)) : Array Value := (xs.map fun x => Value.string (bs x)).toArray
theorem text_any (g k : Nat) (xs : List (List UInt8)) (w : World) (hrow : w.heap[g]? = some (.cells (strs xs) 9 (0, 0))) (hk : xs.length = k) (hl : xs.flatten.length ≤ 140737488355328) (hn : k ≤ 100) :
    Calls Tryz.prog 63 #[.slice (some ⟨g, 0, none⟩) k k] w fun e w' => e = .returned (.string (bs xs.flatten)) ∧ Below w.heap.size w w' := by
  subst hk
  have hj : Lib.join ((xs.map bs).map (·.data.toList)) (⟨#[]⟩ : ByteArray).data.toList = xs.flatten := by
    rw [List.map_map]
    have : (xs.map ((fun x : ByteArray => x.data.toList) ∘ bs)) = xs := by
      conv => rhs; rw [← List.map_id xs]
      exact List.map_congr_left fun x _ => bs_list x
    rw [this]
    exact join_none xs
  have hg : g < w.heap.size := by
    rcases Nat.lt_or_ge g w.heap.size with h | h
    · exact h
    · rw [Array.getElem?_eq_none h] at hrow; cases hrow
  have hc := Tryz.strings_Join g 0 xs.length (xs.map bs) ⟨#[]⟩ w (fun j x hx => by
    rw [Nat.zero_add]
    refine (cell_of_row w g j _ _ _ hrow).trans ?_
    rw [List.getElem?_map] at hx
    simp only [strs, List.getElem?_toArray, List.getElem?_map]
    cases hxj : xs[j]? with
    | none => rw [hxj] at hx; cases hx
    | some y => rw [hxj] at hx; cases hx; rfl) hg (by rw [List.length_map]; omega) (by rw [List.length_map]; exact Nat.le_refl _) (by rw [hj]; exact hl)
  rw [hj, List.length_map] at hc
  have HC := Lib.hid hc
  clear hc hj hrow hg hl hn
  go_enter Tryz.func63, Tryz.ntmps63
  go_wp2_with fail
  refine HC.out.mono ?_
  rintro e w1 ⟨rfl, hB⟩
  go_wp2_with fail
  go_ret
  exact ⟨rfl, hB⟩
theorem number_any (v : Int) (w : World) (h : isU32 v) (ht : Tab10 w) : Calls Tryz.prog 118 #[.int .u32 v] w fun e w' => e = .returned (.string (bs (numL v))) ∧ Below w.heap.size w w' := by
  obtain ⟨h0, h1⟩ := h
  obtain ⟨k, rfl⟩ : ∃ k : Nat, v = (k : Int) := ⟨v.toNat, by omega⟩
  have HC := Lib.hid (fmtu_any k w (by omega) ht)
  clear ht
  go_enter Tryz.func118, Tryz.ntmps118
  go_wp2_with fail
  refine HC.out.mono ?_
  rintro e w1 ⟨rfl, hB⟩
  go_wp2_with fail
  go_ret
  exact ⟨rfl, hB⟩
end Go.Proofs.YtffkaphbgfdpaaaGreatDoor
end

section
/- The type show.said: loaded and stored whole. -/
namespace Go.Proofs.YtffkaphbgfdpaaaGreatDoor
open Go.RowKit Go.Shelf Go.Deep T
set_option linter.unusedVariables false
set_option linter.unusedSimpArgs false
set_option maxRecDepth 100000

abbrev TS : TypeId := 91
def encS (x : Said) : Array Value := #[.string (bs x.1), .int .i64 (x.2 : Int)]
abbrev SaidV (x : Said) : Value := .agg (encS x)
def loadS (v : Value) : Sem Value := Instr.loadAt 91 v
def storeS (v x : Value) : Sem Unit := Instr.storeAt 91 v x
@[go_sem ↓] theorem execOp_load_said (ρ : Operand → Value) (dst : Option Tmp) (x : Operand) (ty : TypeId) (pos : String) (after : Array Edge) (guard : Option (Nat × Bool)) :
    execOp ρ { dst, op := .load 91 x, type := ty, pos, after, guard } = (do pure (.value (← loadS (ρ x)))) := rfl
@[go_sem ↓] theorem execOp_store_said (ρ : Operand → Value) (dst : Option Tmp) (x y : Operand) (ty : TypeId) (pos : String) (after : Array Edge) (guard : Option (Nat × Bool)) :
    execOp ρ { dst, op := .store 91 x y, type := ty, pos, after, guard } = (do storeS (ρ x) (ρ y); pure .skip) := rfl
theorem sizeS : (Tryz.prog.info? 91).map (·.size) = some 2 := by kernel_rfl
/-- A text and its depth lie in block g. -/
def SaidAt (w : World) (g : Nat) (x : Said) : Prop := w.heap[g]? = some (.cells (encS x) TS (0, 0))
/-- Some text lies in block g. -/
def Place (w : World) (g : Nat) : Prop := ∃ x, SaidAt w g x
theorem SaidAt.lt {w : World} {g : Nat} {x : Said} (h : SaidAt w g x) : g < w.heap.size := by
  rcases Nat.lt_or_ge g w.heap.size with k | k
  · exact k
  · unfold SaidAt at h; rw [Array.getElem?_eq_none k] at h; cases h
theorem Place.lt {w : World} {g : Nat} (h : Place w g) : g < w.heap.size := h.choose_spec.lt
theorem SaidAt.later {w W : World} {g : Nat} {x : Said} (h : SaidAt w g x) (hB : Below w.heap.size w W) : SaidAt W g x := (hB.block g h.lt).trans h
theorem Place.later {w W : World} {g : Nat} (h : Place w g) (hB : Below w.heap.size w W) : Place W g := ⟨_, h.choose_spec.later hB⟩
theorem SaidAt.new (w : World) (x : Said) : SaidAt (w.alloc (.cells (encS x) TS)) w.heap.size x := heap_alloc_new w _
theorem zeroS : (#[.string ⟨#[]⟩, .int .i64 0] : Array Value) = encS ([], 0) := rfl
theorem run_loadS {w : World} {g : Nat} {x : Said} (h : SaidAt w g x) : (loadS (.pointer (some ⟨g, 0, none⟩))).run Tryz.prog w = .ok (SaidV x) w := by
  have := run_loadVar_row (P := Tryz.prog) w g TS TS (encS x) (0, 0) _ h Tryz.underlying91 rfl (by rw [sizeS]; rfl)
  simp only [loadS, Instr.loadAt, Instr.sureAddr, Sem.run_bind, Sem.run_pure, Result.andThen_ok]
  exact this
theorem run_storeS {w : World} {g : Nat} (h : Place w g) (s : List UInt8) (k : Nat) : (storeS (.pointer (some ⟨g, 0, none⟩)) (.agg #[.string (bs s), .int .i64 (k : Int)])).run Tryz.prog w = .ok () (w.setRow g (encS (s, k))) := by
  obtain ⟨x, h⟩ := h
  have := run_storeVar_row (P := Tryz.prog) w g TS TS (encS x) (encS (s, k)) h (by rw [sizeS]; rfl) rfl (by simp [encS, Value.oneCell'])
  simp only [storeS, Instr.storeAt, Instr.sureAddr, Sem.run_bind, Sem.run_pure, Result.andThen_ok]
  exact this
theorem SaidAt.set {w : World} {g : Nat} {y : Said} (h : Place w g) : SaidAt (w.setRow g (encS y)) g y := by
  obtain ⟨x, h⟩ := h
  exact setRow_heap w g _ _ _ _ h
theorem Place.row {w : World} {g : Nat} {y : Said} (h : Place (w.setRow g (encS y)) g) : SaidAt (w.setRow g (encS y)) g y := by
  obtain ⟨x, h⟩ := h
  unfold SaidAt at h ⊢
  simp only [World.setRow, Array.getElem?_modify, if_pos] at h ⊢
  cases ho : w.heap[g]? with
  | none => rw [ho] at h; cases h
  | some o =>
    rw [ho] at h
    cases o <;> simp_all
theorem results_said {fn : Func} {p : Tmp} (h : fn.results = #[.cell p 91]) (tmps : Array Value) {w : World} {g : Nat} {x : Said} (hp : tmps.getD p undef = .pointer (some ⟨g, 0, none⟩)) (hA : SaidAt w g x) :
    (results fn tmps).run Tryz.prog w = .ok (SaidV x) w :=
  results_cell_row h tmps w g TS (encS x) (0, 0) _ hp hA Tryz.underlying91 rfl (by rw [sizeS]; rfl)
theorem SaidAt.other {w : World} {g b : Nat} {x y : Said} (h : SaidAt w b x) (hb : b ≠ g) : SaidAt (w.setRow g (encS y)) b x := by
  unfold SaidAt
  rw [setRow_other _ _ _ _ hb]
  exact h
theorem SaidAt.c0 {w : World} {g : Nat} {x : Said} (h : SaidAt w g x) : w.cell? ⟨g, 0, none⟩ = some (.string (bs x.1)) := (cell_of_row _ _ 0 _ _ _ h).trans rfl
theorem SaidAt.c1 {w : World} {g : Nat} {x : Said} (h : SaidAt w g x) : w.cell? ⟨g, 1, none⟩ = some (.int .i64 (x.2 : Int)) := (cell_of_row _ _ 1 _ _ _ h).trans rfl
theorem rowNew {W : World} {o : Obj} {g : Nat} (h : g = W.heap.size) : (W.alloc o).heap[g]? = some o ∧ (W.alloc o).drew.heap[g]? = some o := by
  subst h
  exact ⟨heap_alloc_new W o, heap_alloc_new W o⟩
end Go.Proofs.YtffkaphbgfdpaaaGreatDoor
end

section
/- Package show: a text in brackets. -/
namespace Go.Proofs.YtffkaphbgfdpaaaGreatDoor
open Go.RowKit Go.Shelf Go.Deep T
set_option linter.unusedVariables false
set_option linter.unusedSimpArgs false
set_option maxRecDepth 100000
attribute [local go_sem ↓] Go.wp_at_zero Go.wp_at_succ

/-- A box of a text and a place for a text. -/
def HeldI (w0 W : World) (b q : Nat) (x : Said) : Prop := W.cell? ⟨b, 0, none⟩ = some (.string (bs x.1)) ∧ W.cell? ⟨b, 1, none⟩ = some (.int .i64 (x.2 : Int)) ∧ Place W q ∧ (∀ s : List UInt8, ∀ k : Nat, (storeS (.pointer (some ⟨q, 0, none⟩)) (.agg #[.string (bs s), .int .i64 (k : Int)])).run Tryz.prog W = .ok () (W.setRow q (encS (s, k)))) ∧ SaidAt W b x ∧ b ≠ q ∧ w0.heap.size ≤ q ∧ Below w0.heap.size w0 W
theorem heldI {w0 W : World} {b q : Nat} {x : Said} (h1 : SaidAt W b x) (h2 : Place W q) (hne : b ≠ q) (hq : w0.heap.size ≤ q) (hB : Below w0.heap.size w0 W) : HeldI w0 W b q x :=
  ⟨h1.c0, h1.c1, h2, run_storeS h2, h1, hne, hq, hB⟩
theorem HeldI.later {w0 W W' : World} {b q : Nat} {x : Said} (h : HeldI w0 W b q x) (hB : Below W.heap.size W W') : HeldI w0 W' b q x :=
  heldI (h.2.2.2.2.1.later hB) (h.2.2.1.later hB) h.2.2.2.2.2.1 h.2.2.2.2.2.2.1 (h.2.2.2.2.2.2.2.trans (hB.mono h.2.2.2.2.2.2.2.size))
theorem HeldI.set {w0 W : World} {b q : Nat} {x y : Said} (h : HeldI w0 W b q x) : HeldI w0 (W.setRow q (encS y)) b q x :=
  heldI (h.2.2.2.2.1.other h.2.2.2.2.2.1) ⟨_, SaidAt.set h.2.2.1⟩ h.2.2.2.2.2.1 h.2.2.2.2.2.2.1 (below_setRow h.2.2.2.2.2.2.2 h.2.2.2.2.2.2.1 _)
theorem inside_any (o c : List UInt8) (x : Said) (w : World) (hl : (o ++ (x.1 ++ c)).length ≤ 140737488355328) (hd : x.2 ≤ 1000000) :
    Calls Tryz.prog 61 #[.string (bs o), SaidV x, .string (bs c)] w fun e w' => e = .returned (SaidV (o ++ (x.1 ++ c), x.2 + 1)) ∧ Below w.heap.size w w' := by
  have hz : [o, x.1, c].flatten.length ≤ 140737488355328 := by simpa using hl
  have HC := Lib.hid (fun (W : World) (g : Nat) h => text_any g 3 [o, x.1, c] W h rfl hz (by decide))
  obtain ⟨k, hk⟩ : ∃ k : Nat, x.2 + 1 = k := ⟨_, rfl⟩
  have hwr : IntKind.i64.wrap ((x.2 : Int) + 1) = (k : Int) := by
    rw [IntWalk.i64_in _ (by omega)]
    omega
  have HK := Lib.hid hk
  clear hk
  have hB0 : Below w.heap.size w ((w.alloc (.cells (encS x) TS)).alloc (.cells (encS ([], 0)) TS)) := ((Below.refl _ _).alloc (Nat.le_refl _) _).alloc (by simp) _
  have h2 : SaidAt ((w.alloc (.cells (encS x) TS)).alloc (.cells (encS ([], 0)) TS)) (w.heap.size + 1) ([], 0) := by
    have := SaidAt.new (w.alloc (.cells (encS x) TS)) ([], 0)
    simpa using this
  have h1 : SaidAt ((w.alloc (.cells (encS x) TS)).alloc (.cells (encS ([], 0)) TS)) w.heap.size x := (SaidAt.new w x).later ((Below.refl _ _).alloc (Nat.le_refl _) _)
  have hst : HeldI w ((w.alloc (.cells (encS x) TS)).alloc (.cells (encS ([], 0)) TS)).drew w.heap.size (w.heap.size + 1) x := (heldI h1 ⟨_, h2⟩ (by omega) (by omega) hB0).later (Below.refl _ _).drew
  have HS := Lib.hid hst
  clear hz hl hB0 h1 h2 hst hd
  go_enter Tryz.func61, Tryz.ntmps61
  go_wp2_with fail
  go_region_held3 (fun w' => w'.cell? ⟨w.heap.size, 0, none⟩ = some (.string (bs x.1)) ∧ w'.cell? ⟨w.heap.size, 1, none⟩ = some (.int .i64 (x.2 : Int)) ∧ Place w' (w.heap.size + 1) ∧ (∀ s : List UInt8, ∀ k : Nat, (storeS (.pointer (some ⟨w.heap.size + 1, 0, none⟩)) (.agg #[.string (bs s), .int .i64 (k : Int)])).run Tryz.prog w' = .ok () (w'.setRow (w.heap.size + 1) (encS (s, k)))) ∧ SaidAt w' w.heap.size x ∧ w.heap.size ≠ w.heap.size + 1 ∧ w.heap.size ≤ w.heap.size + 1 ∧ Below w.heap.size w w')
    (first | exact HS.out | exact HeldI.later (by assumption) (by assumption) | exact HeldI.later (by assumption) ((Below.refl _ _).drew) | exact HeldI.later (by assumption) ((Below.refl _ _).alloc (Nat.le_refl _) _) | exact HeldI.later (by assumption) (((Below.refl _ _).alloc (Nat.le_refl _) _).drew) | exact HeldI.set (by assumption) | assumption)
    (first | (go_at_call 63; refine (HC.out _ _ (by first | (refine (rowNew ?_).2; simp) | (refine (rowNew ?_).1; simp))).mono ?_; rintro e5 w5 ⟨rfl, hB5⟩))
  rename_i hH
  have hS9 := Place.row hH.2.2.1
  have hB9 := hH.2.2.2.2.2.2.2
  have HB9 := Lib.hid hB9
  have HS9 := Lib.hid hS9
  clear hH hB5 hB9 hS9
  go_wp2_with fail
  refine bodyPost_ret (results_said rfl _ rfl HS9.out) rfl ?_
  exact ⟨by rw [← HK.out], HB9.out⟩
end Go.Proofs.YtffkaphbgfdpaaaGreatDoor
end

section
/- Package show: addresses. -/
namespace Go.Proofs.YtffkaphbgfdpaaaGreatDoor
open Go.RowKit Go.Shelf Go.Deep T
set_option linter.unusedVariables false
set_option linter.unusedSimpArgs false
set_option maxRecDepth 100000

/-- An address of sixteen bytes, as numbers. -/
def natA (l : List Nat) : T.A16 := ⟨(l.getD 0 0 : Nat), (l.getD 1 0 : Nat), (l.getD 2 0 : Nat), (l.getD 3 0 : Nat), (l.getD 4 0 : Nat), (l.getD 5 0 : Nat), (l.getD 6 0 : Nat), (l.getD 7 0 : Nat), (l.getD 8 0 : Nat), (l.getD 9 0 : Nat), (l.getD 10 0 : Nat), (l.getD 11 0 : Nat), (l.getD 12 0 : Nat), (l.getD 13 0 : Nat), (l.getD 14 0 : Nat), (l.getD 15 0 : Nat)⟩
theorem bytes_nat {n : Node} (hb : T.Node.bytes n) : (bytesA n.addr).length = 16 ∧ (∀ x ∈ bytesA n.addr, x ≤ 255) ∧ n.addr = natA (bytesA n.addr) := by
  refine ⟨rfl, fun x hx => ?_, ?_⟩
  · obtain ⟨y, hy, rfl⟩ := List.mem_map.1 hx
    have := hb y hy
    unfold isByte at this
    omega
  · have h := fun y hy => (hb y hy).1
    obtain ⟨k, op, nn, m, size, of, side, ⟨b0, b1, b2, b3, b4, b5, b6, b7, b8, b9, b10, b11, b12, b13, b14, b15⟩, bits⟩ := n
    simp only [T.A16.list, List.mem_cons, List.not_mem_nil, or_false, forall_eq_or_imp, forall_eq] at h
    obtain ⟨h0, h1, h2, h3, h4, h5, h6, h7, h8, h9, h10, h11, h12, h13, h14, h15⟩ := h
    simp only [natA, bytesA, T.A16.list, List.map_cons, List.map_nil, List.getD_cons_zero, List.getD_cons_succ]
    simp only [Int.toNat_of_nonneg h0, Int.toNat_of_nonneg h1, Int.toNat_of_nonneg h2, Int.toNat_of_nonneg h3, Int.toNat_of_nonneg h4, Int.toNat_of_nonneg h5, Int.toNat_of_nonneg h6, Int.toNat_of_nonneg h7, Int.toNat_of_nonneg h8, Int.toNat_of_nonneg h9, Int.toNat_of_nonneg h10, Int.toNat_of_nonneg h11, Int.toNat_of_nonneg h12, Int.toNat_of_nonneg h13, Int.toNat_of_nonneg h14, Int.toNat_of_nonneg h15]
theorem pairs_bytes : ∀ (k : Nat) (l : List Nat), l.length = 2 * k → (∀ x ∈ l, x ≤ 255) → bytesG (pairsA l) = l ∧ (pairsA l).length = k ∧ ∀ g ∈ pairsA l, g < 65536
  | 0, [], _, _ => ⟨rfl, rfl, fun g hg => by cases hg⟩
  | k + 1, a :: b :: r, h, hx => by
    obtain ⟨h1, h2, h3⟩ := pairs_bytes k r (by simp at h; omega) fun x hx2 => hx x (by simp [hx2])
    have ha := hx a (by simp)
    have hb := hx b (by simp)
    refine ⟨?_, by simp [pairsA, h2], fun g hg => ?_⟩
    · show (([(a * 256 + b) / 256, (a * 256 + b) % 256] : List Nat) ++ bytesG (pairsA r)) = _
      rw [h1]
      have e1 : (a * 256 + b) / 256 = a := by omega
      have e2 : (a * 256 + b) % 256 = b := by omega
      rw [e1, e2]
      rfl
    · rcases List.mem_cons.1 hg with rfl | hg
      · omega
      · exact h3 g hg
theorem encA_nat {l : List Nat} (h : l.length = 16) : encA (natA l) = a16 l := by
  match l, h with
  | [x0, x1, x2, x3, x4, x5, x6, x7, x8, x9, x10, x11, x12, x13, x14, x15], _ => rfl
theorem address_any (n : Node) (w : World) (hb : T.Node.bytes n) (hd : Deb w) (ht : Tab10 w) : Calls Tryz.prog 120 #[.agg (enc n)] w fun e w' => e = .returned (.string (bs (addrL n))) ∧ Below w.heap.size w w' := by
  obtain ⟨h16, h255, hn⟩ := bytes_nat hb
  obtain ⟨l, hl⟩ : ∃ l, bytesA n.addr = l := ⟨_, rfl⟩
  rw [hl] at h16 h255 hn
  have hB : Below w.heap.size w (w.alloc (.cells (enc n) 37)) := (Below.refl _ _).alloc (Nat.le_refl _) _
  have hrow : (w.alloc (.cells (enc n) 37)).heap[w.heap.size]? = some (.cells (enc n) 37 (0, 0)) := heap_alloc_new w _
  by_cases h3 : n.of = 3
  · obtain ⟨g1, g2, g3⟩ := pairs_bytes 8 l h16 h255
    have hA : addrL n = print6L (pairsA l) := by unfold addrL; rw [if_pos h3, hl]
    rw [hA]
    have hld : (loadA (.pointer (some ⟨w.heap.size, 7, none⟩))).run Tryz.prog (w.alloc (.cells (enc n) 37)) = .ok (agg16 (bytesG (pairsA l))) (w.alloc (.cells (enc n) 37)) := by
      have hc : (w.alloc (.cells (enc n) 37)).rangeAt w.heap.size 7 (encA n.addr).toList := by
        intro j v hj
        rw [cell_of_row _ _ (7 + j) _ _ _ hrow, ← hj]
        have hj2 : j < 16 := (List.getElem?_eq_some_iff.1 hj).1
        match j, hj2 with
        | 0, _ => rfl
        | 1, _ => rfl
        | 2, _ => rfl
        | 3, _ => rfl
        | 4, _ => rfl
        | 5, _ => rfl
        | 6, _ => rfl
        | 7, _ => rfl
        | 8, _ => rfl
        | 9, _ => rfl
        | 10, _ => rfl
        | 11, _ => rfl
        | 12, _ => rfl
        | 13, _ => rfl
        | 14, _ => rfl
        | 15, _ => rfl
      have := run_loadAt_mid (P := Tryz.prog) (w.alloc (.cells (enc n) 37)) w.heap.size 7 35 (encA n.addr).toList _ hc Tryz.underlying35 rfl (by kernel_rfl)
      rw [g1]
      unfold loadA
      rw [this, hn, encA_nat h16]
    have HC := Lib.hid (print6_any (pairsA l) (w.alloc (.cells (enc n) 37)) g2 g3 (hd.later hB))
    have HB := Lib.hid hB
    clear g1 g2 g3 hA hrow hB hl hn h16 h255 hb hd ht
    go_enter Tryz.func120, Tryz.ntmps120
    go_wp2_with fail
    refine HC.out.mono ?_
    rintro e w1 ⟨rfl, hB1⟩
    go_wp2_with fail
    go_ret
    exact ⟨rfl, HB.out.trans (hB1.mono HB.out.size)⟩
  · have hA : addrL n = print4L (l.take 4) := by unfold addrL; rw [if_neg h3, hl]
    rw [hA]
    have heq : agg4 (l.take 4) = .agg #[.int .u8 n.addr.b0, .int .u8 n.addr.b1, .int .u8 n.addr.b2, .int .u8 n.addr.b3] := by
      rw [hn]
      clear hl hn hrow hB h255 hA
      match l, h16 with
      | [x0, x1, x2, x3, x4, x5, x6, x7, x8, x9, x10, x11, x12, x13, x14, x15], _ => rfl
    have hcl := print4_any (l.take 4) (w.alloc (.cells (enc n) 37)) (by simp [h16]) (fun x hx => h255 x (List.mem_of_mem_take hx)) (ht.later hB)
    rw [heq] at hcl
    have HC := Lib.hid hcl
    have HB := Lib.hid hB
    have HN := Lib.hid hn
    have H16 := Lib.hid h16
    have har : (Instr.arrayAt 109 (.slice (some ⟨w.heap.size, 7, none⟩) 4 16)).run Tryz.prog (w.alloc (.cells (enc n) 37)) = .ok (.pointer (some ⟨w.heap.size, 7, none⟩)) (w.alloc (.cells (enc n) 37)) := by
      have := run_arrayAt (P := Tryz.prog) (w := (w.alloc (.cells (enc n) 37))) 109 5 4 (some ⟨w.heap.size, 7, none⟩) 4 16 Tryz.underlying109 (Nat.le_refl _)
      exact this
    clear hA hrow hB hl hn h16 h255 hb hd ht hcl heq
    go_enter Tryz.func120, Tryz.ntmps120
    go_wp2_with fail
    refine HC.out.mono ?_
    rintro e w1 ⟨rfl, hB1⟩
    go_wp2_with fail
    go_ret
    exact ⟨rfl, HB.out.trans (hB1.mono HB.out.size)⟩
end Go.Proofs.YtffkaphbgfdpaaaGreatDoor
end

section
/- Package show: leaves. -/
namespace Go.Proofs.YtffkaphbgfdpaaaGreatDoor
open Go.RowKit Go.Shelf Go.Deep T
set_option linter.unusedVariables false
set_option linter.unusedSimpArgs false
set_option maxRecDepth 100000
attribute [local go_sem ↓] Go.wp_at_zero Go.wp_at_succ

/-- A box of a node. -/
def HeldN (w W : World) (n : Node) : Prop := W.cell? ⟨w.heap.size, 2, none⟩ = some (.int .u32 n.n) ∧ W.cell? ⟨w.heap.size, 3, none⟩ = some (.int .u32 n.m) ∧ W.cell? ⟨w.heap.size, 5, none⟩ = some (.int .i64 n.of) ∧ W.cell? ⟨w.heap.size, 6, none⟩ = some (.int .i64 n.side) ∧ W.cell? ⟨w.heap.size, 23, none⟩ = some (.int .i64 n.bits) ∧ nodeAt W ⟨w.heap.size, 0, none⟩ = some n ∧ W.heap[w.heap.size]? = some (.cells (enc n) 37 (0, 0)) ∧ Below w.heap.size w W
theorem heldN {w W : World} {n : Node} (h : W.heap[w.heap.size]? = some (.cells (enc n) 37 (0, 0))) (hB : Below w.heap.size w W) : HeldN w W n :=
  ⟨(cell_of_row _ _ 2 _ _ _ h).trans rfl, (cell_of_row _ _ 3 _ _ _ h).trans rfl, (cell_of_row _ _ 5 _ _ _ h).trans rfl, (cell_of_row _ _ 6 _ _ _ h).trans rfl, (cell_of_row _ _ 23 _ _ _ h).trans rfl, nodeAt_row h, h, hB⟩
theorem HeldN.later {w W W' : World} {n : Node} (h : HeldN w W n) (hB : Below W.heap.size W W') : HeldN w W' n := by
  have h7 := h.2.2.2.2.2.2
  have hq : w.heap.size < W.heap.size := by
    rcases Nat.lt_or_ge w.heap.size W.heap.size with k | k
    · exact k
    · have := h7.1; rw [Array.getElem?_eq_none k] at this; cases this
  exact heldN ((hB.block _ hq).trans h7.1) (h7.2.trans (hB.mono h7.2.size))
theorem HeldN.below {w W : World} {n : Node} (h : HeldN w W n) : Below w.heap.size w W := h.2.2.2.2.2.2.2
theorem HeldN.new (w : World) (n : Node) : HeldN w (w.alloc (.cells (enc n) 37)) n := heldN (heap_alloc_new w _) ((Below.refl _ _).alloc (Nat.le_refl _) _)
/-- What the fields of a node that is shown are. -/
structure NodeOk (n : Node) : Prop where
  of_ : 0 ≤ n.of ∧ n.of < 14
  side_ : 0 ≤ n.side ∧ n.side < 3
  un : isU32 n.n
  um : isU32 n.m
  bits_ : 0 ≤ n.bits ∧ n.bits ≤ 128
  bytes_ : T.Node.bytes n
theorem nameL_len (o : Int) : (nameL o).length ≤ 10 := by
  unfold nameL at_
  have : ∀ i : Nat, (nameW.getD i []).length ≤ 10 := fun i => by
    match i with
    | 0 | 1 | 2 | 3 | 4 | 5 | 6 | 7 | 8 | 9 | 10 | 11 | 12 | 13 => decide
    | i + 14 => exact Nat.zero_le _
  exact this _
theorem sideL_len (o : Int) : (sideL o).length ≤ 10 := by
  unfold sideL at_
  have : ∀ i : Nat, (sideW.getD i []).length ≤ 10 := fun i => by
    match i with
    | 0 | 1 | 2 => decide
    | i + 3 => exact Nat.zero_le _
  exact this _
theorem numL_len (v : Int) : (numL v).length ≤ 20 := dcl_len _
theorem addrL_len {n : Node} (hb : T.Node.bytes n) : (addrL n).length ≤ 1000 := by
  obtain ⟨h16, h255, hn⟩ := bytes_nat hb
  unfold addrL
  split
  · have := print6_len (pairs_bytes 8 _ h16 h255).2.1
    omega
  · exact print4_len (by simp; omega) fun x hx => h255 x (List.mem_of_mem_take hx)
theorem ports_any (n : Node) (w : World) (h : NodeOk n) (ht : Tab10 w) : Calls Tryz.prog 121 #[.agg (enc n)] w fun e w' => e = .returned (.string (bs (portsL n))) ∧ Below w.heap.size w w' := by
  have HOF := Lib.hid h.of_
  have HSI := Lib.hid h.side_
  have HUN := Lib.hid h.un
  have HUM := Lib.hid h.um
  have HTT := Lib.hid ht
  have HN0 := Lib.hid (HeldN.new w n)
  have HB0 := Lib.hid (HeldN.new w n).below
  have l0 := nameL_len n.of
  have l00 := nameL_len 0
  have l1 := sideL_len n.side
  have l2 := numL_len n.n
  have l3 := numL_len n.m
  by_cases ho : n.of = 0
  · by_cases hm : n.n = n.m
    · have hz : ([nameL 0, sideL n.side, [112, 111, 114, 116, 32], numL n.m] : List (List UInt8)).flatten.length ≤ 140737488355328 := by
        simp only [List.flatten_cons, List.flatten_nil, List.length_append, List.length_cons, List.length_nil]
        omega
      have HP : Hid (portsL n = ([nameL 0, sideL n.side, [112, 111, 114, 116, 32], numL n.m] : List (List UInt8)).flatten) := Lib.hid (by simp [portsL, ho, hm])
      have HC := Lib.hid (fun (W : World) (g : Nat) h => text_any g 4 [nameL 0, sideL n.side, [112, 111, 114, 116, 32], numL n.m] W h rfl hz (by decide))
      clear hz l0 l00 l1 l2 l3 h ht
      go_enter Tryz.func121, Tryz.ntmps121
      go_wp2_with fail
      refine (name_any 0 _ (by decide) (by decide)).mono ?_
      rintro e w1 ⟨rfl, hB1⟩
      have HS1 := Lib.hid (HN0.out.later hB1)
      have HST := Lib.hid (HS1.out.later (Below.refl _ _).drew)
      have c2 := HS1.out.1
      have c3 := HS1.out.2.1
      have c5 := HS1.out.2.2.1
      clear hB1
      go_wp2_with fail
      go_region_held3 (fun w' => w'.cell? ⟨w.heap.size, 2, none⟩ = some (.int .u32 n.n) ∧ w'.cell? ⟨w.heap.size, 3, none⟩ = some (.int .u32 n.m) ∧ w'.cell? ⟨w.heap.size, 5, none⟩ = some (.int .i64 n.of) ∧ w'.cell? ⟨w.heap.size, 6, none⟩ = some (.int .i64 n.side) ∧ w'.cell? ⟨w.heap.size, 23, none⟩ = some (.int .i64 n.bits) ∧ nodeAt w' ⟨w.heap.size, 0, none⟩ = some n ∧ w'.heap[w.heap.size]? = some (.cells (enc n) 37 (0, 0)) ∧ Below w.heap.size w w')
        (first | exact HST.out | exact HeldN.later (by assumption) (by assumption) | exact HeldN.later (by assumption) ((Below.refl _ _).drew) | exact HeldN.later (by assumption) ((Below.refl _ _).alloc (Nat.le_refl _) _) | exact HeldN.later (by assumption) (((Below.refl _ _).alloc (Nat.le_refl _) _).drew) | assumption)
        (first | (go_at_call 119; refine (side_any _ _ HSI.out.1 HSI.out.2).mono ?_; rintro e5 w5 ⟨rfl, hB5⟩) | (go_at_call 118; refine (number_any _ _ (by first | exact HUN.out | exact HUM.out) (HTT.out.later (HeldN.below (by assumption)))).mono ?_; rintro e5 w5 ⟨rfl, hB5⟩) | (go_at_call 63; refine (HC.out _ _ (by first | (refine (rowNew ?_).2; simp) | (refine (rowNew ?_).1; simp))).mono ?_; rintro e5 w5 ⟨rfl, hB5⟩))
      rename_i hH
      have HB9 := Lib.hid hH.2.2.2.2.2.2.2
      clear hH
      go_wp2_with fail
      go_ret
      exact ⟨by rw [HP.out]; simp, HB9.out⟩
    · have hz : ([nameL 0, sideL n.side, [112, 111, 114, 116, 114, 97, 110, 103, 101, 32], numL n.n, [45], numL n.m] : List (List UInt8)).flatten.length ≤ 140737488355328 := by
        simp only [List.flatten_cons, List.flatten_nil, List.length_append, List.length_cons, List.length_nil]
        omega
      have HP : Hid (portsL n = ([nameL 0, sideL n.side, [112, 111, 114, 116, 114, 97, 110, 103, 101, 32], numL n.n, [45], numL n.m] : List (List UInt8)).flatten) := Lib.hid (by simp [portsL, ho, hm])
      have HC := Lib.hid (fun (W : World) (g : Nat) h => text_any g 6 [nameL 0, sideL n.side, [112, 111, 114, 116, 114, 97, 110, 103, 101, 32], numL n.n, [45], numL n.m] W h rfl hz (by decide))
      clear hz l0 l00 l1 l2 l3 h ht
      go_enter Tryz.func121, Tryz.ntmps121
      go_wp2_with fail
      refine (name_any 0 _ (by decide) (by decide)).mono ?_
      rintro e w1 ⟨rfl, hB1⟩
      have HS1 := Lib.hid (HN0.out.later hB1)
      have HST := Lib.hid (HS1.out.later (Below.refl _ _).drew)
      have c2 := HS1.out.1
      have c3 := HS1.out.2.1
      have c5 := HS1.out.2.2.1
      clear hB1
      go_wp2_with fail
      go_region_held3 (fun w' => w'.cell? ⟨w.heap.size, 2, none⟩ = some (.int .u32 n.n) ∧ w'.cell? ⟨w.heap.size, 3, none⟩ = some (.int .u32 n.m) ∧ w'.cell? ⟨w.heap.size, 5, none⟩ = some (.int .i64 n.of) ∧ w'.cell? ⟨w.heap.size, 6, none⟩ = some (.int .i64 n.side) ∧ w'.cell? ⟨w.heap.size, 23, none⟩ = some (.int .i64 n.bits) ∧ nodeAt w' ⟨w.heap.size, 0, none⟩ = some n ∧ w'.heap[w.heap.size]? = some (.cells (enc n) 37 (0, 0)) ∧ Below w.heap.size w w')
        (first | exact HST.out | exact HeldN.later (by assumption) (by assumption) | exact HeldN.later (by assumption) ((Below.refl _ _).drew) | exact HeldN.later (by assumption) ((Below.refl _ _).alloc (Nat.le_refl _) _) | exact HeldN.later (by assumption) (((Below.refl _ _).alloc (Nat.le_refl _) _).drew) | assumption)
        (first | (go_at_call 119; refine (side_any _ _ HSI.out.1 HSI.out.2).mono ?_; rintro e5 w5 ⟨rfl, hB5⟩) | (go_at_call 118; refine (number_any _ _ (by first | exact HUN.out | exact HUM.out) (HTT.out.later (HeldN.below (by assumption)))).mono ?_; rintro e5 w5 ⟨rfl, hB5⟩) | (go_at_call 63; refine (HC.out _ _ (by first | (refine (rowNew ?_).2; simp) | (refine (rowNew ?_).1; simp))).mono ?_; rintro e5 w5 ⟨rfl, hB5⟩))
      rename_i hH
      have HB9 := Lib.hid hH.2.2.2.2.2.2.2
      clear hH
      go_wp2_with fail
      go_ret
      exact ⟨by rw [HP.out]; simp, HB9.out⟩
  · by_cases hm : n.n = n.m
    · have hz : ([(nameL n.of ++ [32]), sideL n.side, [112, 111, 114, 116, 32], numL n.m] : List (List UInt8)).flatten.length ≤ 140737488355328 := by
        simp only [List.flatten_cons, List.flatten_nil, List.length_append, List.length_cons, List.length_nil]
        omega
      have HP : Hid (portsL n = ([(nameL n.of ++ [32]), sideL n.side, [112, 111, 114, 116, 32], numL n.m] : List (List UInt8)).flatten) := Lib.hid (by simp [portsL, ho, hm])
      have HC := Lib.hid (fun (W : World) (g : Nat) h => text_any g 4 [(nameL n.of ++ [32]), sideL n.side, [112, 111, 114, 116, 32], numL n.m] W h rfl hz (by decide))
      have ha : ∀ W, (Op.stringOp .add (bs (nameL n.of)) ⟨#[32]⟩).run Tryz.prog W = .ok (.string (bs (nameL n.of ++ [32]))) W := add_two (nameL n.of) [32] _ (by simp; omega) rfl
      clear hz l0 l00 l1 l2 l3 h ht
      go_enter Tryz.func121, Tryz.ntmps121
      go_wp2_with fail
      refine (name_any _ _ HOF.out.1 HOF.out.2).mono ?_
      rintro e w1 ⟨rfl, hB1⟩
      have HS1 := Lib.hid (HN0.out.later hB1)
      have HST := Lib.hid (HS1.out.later (Below.refl _ _).drew)
      have c2 := HS1.out.1
      have c3 := HS1.out.2.1
      have c5 := HS1.out.2.2.1
      clear hB1
      go_wp2_with fail
      go_region_held3 (fun w' => w'.cell? ⟨w.heap.size, 2, none⟩ = some (.int .u32 n.n) ∧ w'.cell? ⟨w.heap.size, 3, none⟩ = some (.int .u32 n.m) ∧ w'.cell? ⟨w.heap.size, 5, none⟩ = some (.int .i64 n.of) ∧ w'.cell? ⟨w.heap.size, 6, none⟩ = some (.int .i64 n.side) ∧ w'.cell? ⟨w.heap.size, 23, none⟩ = some (.int .i64 n.bits) ∧ nodeAt w' ⟨w.heap.size, 0, none⟩ = some n ∧ w'.heap[w.heap.size]? = some (.cells (enc n) 37 (0, 0)) ∧ Below w.heap.size w w')
        (first | exact HST.out | exact HeldN.later (by assumption) (by assumption) | exact HeldN.later (by assumption) ((Below.refl _ _).drew) | exact HeldN.later (by assumption) ((Below.refl _ _).alloc (Nat.le_refl _) _) | exact HeldN.later (by assumption) (((Below.refl _ _).alloc (Nat.le_refl _) _).drew) | assumption)
        (first | (go_at_call 119; refine (side_any _ _ HSI.out.1 HSI.out.2).mono ?_; rintro e5 w5 ⟨rfl, hB5⟩) | (go_at_call 118; refine (number_any _ _ (by first | exact HUN.out | exact HUM.out) (HTT.out.later (HeldN.below (by assumption)))).mono ?_; rintro e5 w5 ⟨rfl, hB5⟩) | (go_at_call 63; refine (HC.out _ _ (by first | (refine (rowNew ?_).2; simp) | (refine (rowNew ?_).1; simp))).mono ?_; rintro e5 w5 ⟨rfl, hB5⟩))
      rename_i hH
      have HB9 := Lib.hid hH.2.2.2.2.2.2.2
      clear hH
      go_wp2_with fail
      go_ret
      exact ⟨by rw [HP.out]; simp, HB9.out⟩
    · have hz : ([(nameL n.of ++ [32]), sideL n.side, [112, 111, 114, 116, 114, 97, 110, 103, 101, 32], numL n.n, [45], numL n.m] : List (List UInt8)).flatten.length ≤ 140737488355328 := by
        simp only [List.flatten_cons, List.flatten_nil, List.length_append, List.length_cons, List.length_nil]
        omega
      have HP : Hid (portsL n = ([(nameL n.of ++ [32]), sideL n.side, [112, 111, 114, 116, 114, 97, 110, 103, 101, 32], numL n.n, [45], numL n.m] : List (List UInt8)).flatten) := Lib.hid (by simp [portsL, ho, hm])
      have HC := Lib.hid (fun (W : World) (g : Nat) h => text_any g 6 [(nameL n.of ++ [32]), sideL n.side, [112, 111, 114, 116, 114, 97, 110, 103, 101, 32], numL n.n, [45], numL n.m] W h rfl hz (by decide))
      have ha : ∀ W, (Op.stringOp .add (bs (nameL n.of)) ⟨#[32]⟩).run Tryz.prog W = .ok (.string (bs (nameL n.of ++ [32]))) W := add_two (nameL n.of) [32] _ (by simp; omega) rfl
      clear hz l0 l00 l1 l2 l3 h ht
      go_enter Tryz.func121, Tryz.ntmps121
      go_wp2_with fail
      refine (name_any _ _ HOF.out.1 HOF.out.2).mono ?_
      rintro e w1 ⟨rfl, hB1⟩
      have HS1 := Lib.hid (HN0.out.later hB1)
      have HST := Lib.hid (HS1.out.later (Below.refl _ _).drew)
      have c2 := HS1.out.1
      have c3 := HS1.out.2.1
      have c5 := HS1.out.2.2.1
      clear hB1
      go_wp2_with fail
      go_region_held3 (fun w' => w'.cell? ⟨w.heap.size, 2, none⟩ = some (.int .u32 n.n) ∧ w'.cell? ⟨w.heap.size, 3, none⟩ = some (.int .u32 n.m) ∧ w'.cell? ⟨w.heap.size, 5, none⟩ = some (.int .i64 n.of) ∧ w'.cell? ⟨w.heap.size, 6, none⟩ = some (.int .i64 n.side) ∧ w'.cell? ⟨w.heap.size, 23, none⟩ = some (.int .i64 n.bits) ∧ nodeAt w' ⟨w.heap.size, 0, none⟩ = some n ∧ w'.heap[w.heap.size]? = some (.cells (enc n) 37 (0, 0)) ∧ Below w.heap.size w w')
        (first | exact HST.out | exact HeldN.later (by assumption) (by assumption) | exact HeldN.later (by assumption) ((Below.refl _ _).drew) | exact HeldN.later (by assumption) ((Below.refl _ _).alloc (Nat.le_refl _) _) | exact HeldN.later (by assumption) (((Below.refl _ _).alloc (Nat.le_refl _) _).drew) | assumption)
        (first | (go_at_call 119; refine (side_any _ _ HSI.out.1 HSI.out.2).mono ?_; rintro e5 w5 ⟨rfl, hB5⟩) | (go_at_call 118; refine (number_any _ _ (by first | exact HUN.out | exact HUM.out) (HTT.out.later (HeldN.below (by assumption)))).mono ?_; rintro e5 w5 ⟨rfl, hB5⟩) | (go_at_call 63; refine (HC.out _ _ (by first | (refine (rowNew ?_).2; simp) | (refine (rowNew ?_).1; simp))).mono ?_; rintro e5 w5 ⟨rfl, hB5⟩))
      rename_i hH
      have HB9 := Lib.hid hH.2.2.2.2.2.2.2
      clear hH
      go_wp2_with fail
      go_ret
      exact ⟨by rw [HP.out]; simp, HB9.out⟩
end Go.Proofs.YtffkaphbgfdpaaaGreatDoor
end

section
/- Package show: leaf. -/
namespace Go.Proofs.YtffkaphbgfdpaaaGreatDoor
open Go.RowKit Go.Shelf Go.Deep T
set_option linter.unusedVariables false
set_option linter.unusedSimpArgs false
set_option maxRecDepth 100000
attribute [local go_sem ↓] Go.wp_at_zero Go.wp_at_succ

theorem leaf_any (n : Node) (w : World) (h : NodeOk n) (ht : Tab10 w) (hd : Deb w) : Calls Tryz.prog 68 #[.agg (enc n)] w fun e w' => e = .returned (.string (bs (leafL n))) ∧ Below w.heap.size w w' := by
  have HOF := Lib.hid h.of_
  have HSI := Lib.hid h.side_
  have HUN := Lib.hid h.un
  have HUM := Lib.hid h.um
  have HBY := Lib.hid h.bytes_
  have HTT := Lib.hid ht
  have HDD := Lib.hid hd
  have HN0 := Lib.hid (HeldN.new w n)
  have HB0 := Lib.hid (HeldN.new w n).below
  have HST := Lib.hid ((HeldN.new w n).later (Below.refl _ _).drew)
  obtain ⟨b, hb⟩ : ∃ b : Nat, n.bits = (b : Int) := ⟨n.bits.toNat, by have := h.bits_.1; omega⟩
  have hb9 : b ≤ 128 := by have := h.bits_.2; omega
  have HIT := Lib.hid (fun (W : World) (h : Tab10 W) => itoa_any b W (by omega) h)
  have l0 := nameL_len n.of
  have l1 := sideL_len n.side
  have l2 := numL_len n.n
  have l3 := addrL_len h.bytes_
  have l4 : (dcl b).length ≤ 20 := dcl_len b
  have HHH := Lib.hid h
  have HB2 := Lib.hid hb
  clear h ht hd hb9
  by_cases h1 : n.kind = 1
  case pos =>
    clear l0 l1 l2 l3 l4 hb
    go_enter Tryz.func68, Tryz.ntmps68
    go_wp2_with fail
    refine (number_any _ _ HUN.out (HTT.out.later HB0.out)).mono ?_
    rintro e w1 ⟨rfl, hB1⟩
    go_wp2_with fail
    go_ret
    exact ⟨by simp [leafL, h1], HB0.out.trans (hB1.mono HB0.out.size)⟩
  by_cases h2 : n.kind = 2
  case pos =>
    clear l0 l1 l2 l3 l4 hb
    go_enter Tryz.func68, Tryz.ntmps68
    go_wp2_with fail
    go_ret
    exact ⟨by simp [leafL, h2]; rfl, HB0.out⟩
  by_cases h10 : n.kind = 10
  case pos =>
    clear l0 l1 l2 l3 l4 hb
    have s0 := HSI.out.1
    have s1 := HSI.out.2
    have hB : ∀ x, Below w.heap.size w ((w.alloc (.cells (enc n) 37)).alloc x) := fun x => HB0.out.alloc HB0.out.size _
    go_enter Tryz.func68, Tryz.ntmps68
    go_wp2_with fail
    go_ret
    exact ⟨(congrArg Ending.returned (at_str wayW n.side (by show n.side.toNat < 3; omega))).trans (by simp [leafL, h10]), hB _⟩
  by_cases h11 : n.kind = 11
  case pos =>
    clear l0 l1 l2 l3 l4 hb
    go_enter Tryz.func68, Tryz.ntmps68
    go_wp2_with fail
    refine (name_any _ _ HOF.out.1 HOF.out.2).mono ?_
    rintro e w1 ⟨rfl, hB1⟩
    go_wp2_with fail
    go_ret
    exact ⟨by simp [leafL, h11], HB0.out.trans (hB1.mono HB0.out.size)⟩
  by_cases h12 : n.kind = 12
  case pos =>
    have hz : ([[112, 114, 111, 116, 111, 32], numL n.n] : List (List UInt8)).flatten.length ≤ 140737488355328 := by
      simp only [List.flatten_cons, List.flatten_nil, List.length_append, List.length_cons, List.length_nil]
      omega
    have HP : Hid (leafL n = ([[112, 114, 111, 116, 111, 32], numL n.n] : List (List UInt8)).flatten) := Lib.hid (by simp [leafL, h12, numL, hb])
    have HC := Lib.hid (fun (W : World) (g : Nat) h => text_any g 2 [[112, 114, 111, 116, 111, 32], numL n.n] W h rfl hz (by decide))
    clear hz l0 l1 l2 l3 l4
    go_enter Tryz.func68, Tryz.ntmps68
    go_wp2_with fail
    refine (number_any _ _ HUN.out (HTT.out.later HB0.out)).mono ?_
    rintro e w1 ⟨rfl, hB1⟩
    have HB1 := Lib.hid (HB0.out.trans (hB1.mono HB0.out.size))
    clear hB1
    go_wp2_with fail
    refine (HC.out _ _ (by first | (refine (rowNew ?_).2; simp) | (refine (rowNew ?_).1; simp))).mono ?_
    rintro e w2 ⟨rfl, hB2⟩
    have HB9 := Lib.hid ((HB1.out.alloc HB1.out.size _).trans (hB2.mono (HB1.out.alloc HB1.out.size _).size))
    clear hB2
    go_wp2_with fail
    go_ret
    exact ⟨by rw [HP.out]; simp, HB9.out⟩
  by_cases h13 : n.kind = 13
  case pos =>
    have hz : ([nameL n.of, [32, 112, 114, 111, 116, 111, 32], numL n.n] : List (List UInt8)).flatten.length ≤ 140737488355328 := by
      simp only [List.flatten_cons, List.flatten_nil, List.length_append, List.length_cons, List.length_nil]
      omega
    have HP : Hid (leafL n = ([nameL n.of, [32, 112, 114, 111, 116, 111, 32], numL n.n] : List (List UInt8)).flatten) := Lib.hid (by simp [leafL, h13, numL, hb])
    have HC := Lib.hid (fun (W : World) (g : Nat) h => text_any g 3 [nameL n.of, [32, 112, 114, 111, 116, 111, 32], numL n.n] W h rfl hz (by decide))
    clear hz l0 l1 l2 l3 l4
    go_enter Tryz.func68, Tryz.ntmps68
    go_wp2_with fail
    go_region_held3 (fun w' => w'.cell? ⟨w.heap.size, 2, none⟩ = some (.int .u32 n.n) ∧ w'.cell? ⟨w.heap.size, 3, none⟩ = some (.int .u32 n.m) ∧ w'.cell? ⟨w.heap.size, 5, none⟩ = some (.int .i64 n.of) ∧ w'.cell? ⟨w.heap.size, 6, none⟩ = some (.int .i64 n.side) ∧ w'.cell? ⟨w.heap.size, 23, none⟩ = some (.int .i64 n.bits) ∧ nodeAt w' ⟨w.heap.size, 0, none⟩ = some n ∧ w'.heap[w.heap.size]? = some (.cells (enc n) 37 (0, 0)) ∧ Below w.heap.size w w')
      (first | exact HST.out | exact HeldN.later (by assumption) (by assumption) | exact HeldN.later (by assumption) ((Below.refl _ _).drew) | exact HeldN.later (by assumption) ((Below.refl _ _).alloc (Nat.le_refl _) _) | exact HeldN.later (by assumption) (((Below.refl _ _).alloc (Nat.le_refl _) _).drew) | assumption)
      (first | (go_at_call 65; refine (name_any _ _ HOF.out.1 HOF.out.2).mono ?_; rintro e5 w5 ⟨rfl, hB5⟩) | (go_at_call 118; refine (number_any _ _ (by first | exact HUN.out | exact HUM.out) (HTT.out.later (HeldN.below (by assumption)))).mono ?_; rintro e5 w5 ⟨rfl, hB5⟩) | (go_at_call 63; refine (HC.out _ _ (by first | (refine (rowNew ?_).2; simp) | (refine (rowNew ?_).1; simp))).mono ?_; rintro e5 w5 ⟨rfl, hB5⟩))
    rename_i hH
    have HB9 := Lib.hid hH.2.2.2.2.2.2.2
    clear hH
    go_wp2_with fail
    go_ret
    exact ⟨by rw [HP.out]; simp, HB9.out⟩
  by_cases h14 : n.kind = 14
  case pos =>
    have hz : ([sideL n.side, [104, 111, 115, 116, 32], addrL n] : List (List UInt8)).flatten.length ≤ 140737488355328 := by
      simp only [List.flatten_cons, List.flatten_nil, List.length_append, List.length_cons, List.length_nil]
      omega
    have HP : Hid (leafL n = ([sideL n.side, [104, 111, 115, 116, 32], addrL n] : List (List UInt8)).flatten) := Lib.hid (by simp [leafL, h14, numL, hb])
    have HC := Lib.hid (fun (W : World) (g : Nat) h => text_any g 3 [sideL n.side, [104, 111, 115, 116, 32], addrL n] W h rfl hz (by decide))
    clear hz l0 l1 l2 l3 l4
    go_enter Tryz.func68, Tryz.ntmps68
    go_wp2_with fail
    go_region_held3 (fun w' => w'.cell? ⟨w.heap.size, 2, none⟩ = some (.int .u32 n.n) ∧ w'.cell? ⟨w.heap.size, 3, none⟩ = some (.int .u32 n.m) ∧ w'.cell? ⟨w.heap.size, 5, none⟩ = some (.int .i64 n.of) ∧ w'.cell? ⟨w.heap.size, 6, none⟩ = some (.int .i64 n.side) ∧ w'.cell? ⟨w.heap.size, 23, none⟩ = some (.int .i64 n.bits) ∧ nodeAt w' ⟨w.heap.size, 0, none⟩ = some n ∧ w'.heap[w.heap.size]? = some (.cells (enc n) 37 (0, 0)) ∧ Below w.heap.size w w')
      (first | exact HST.out | exact HeldN.later (by assumption) (by assumption) | exact HeldN.later (by assumption) ((Below.refl _ _).drew) | exact HeldN.later (by assumption) ((Below.refl _ _).alloc (Nat.le_refl _) _) | exact HeldN.later (by assumption) (((Below.refl _ _).alloc (Nat.le_refl _) _).drew) | assumption)
      (first | (go_at_call 119; refine (side_any _ _ HSI.out.1 HSI.out.2).mono ?_; rintro e5 w5 ⟨rfl, hB5⟩) | (go_at_call 120; refine (address_any _ _ HBY.out (HDD.out.later (HeldN.below (by assumption))) (HTT.out.later (HeldN.below (by assumption)))).mono ?_; rintro e5 w5 ⟨rfl, hB5⟩) | (go_at_call 63; refine (HC.out _ _ (by first | (refine (rowNew ?_).2; simp) | (refine (rowNew ?_).1; simp))).mono ?_; rintro e5 w5 ⟨rfl, hB5⟩))
    rename_i hH
    have HB9 := Lib.hid hH.2.2.2.2.2.2.2
    clear hH
    go_wp2_with fail
    go_ret
    exact ⟨by rw [HP.out]; simp, HB9.out⟩
  by_cases h15 : n.kind = 15
  case pos =>
    have hz : ([sideL n.side, [110, 101, 116, 32], addrL n, [47], dcl b] : List (List UInt8)).flatten.length ≤ 140737488355328 := by
      simp only [List.flatten_cons, List.flatten_nil, List.length_append, List.length_cons, List.length_nil]
      omega
    have HP : Hid (leafL n = ([sideL n.side, [110, 101, 116, 32], addrL n, [47], dcl b] : List (List UInt8)).flatten) := Lib.hid (by simp [leafL, h15, numL, hb])
    have HC := Lib.hid (fun (W : World) (g : Nat) h => text_any g 5 [sideL n.side, [110, 101, 116, 32], addrL n, [47], dcl b] W h rfl hz (by decide))
    clear hz l0 l1 l2 l3 l4
    go_enter Tryz.func68, Tryz.ntmps68
    go_wp2_with fail
    go_region_held3 (fun w' => w'.cell? ⟨w.heap.size, 2, none⟩ = some (.int .u32 n.n) ∧ w'.cell? ⟨w.heap.size, 3, none⟩ = some (.int .u32 n.m) ∧ w'.cell? ⟨w.heap.size, 5, none⟩ = some (.int .i64 n.of) ∧ w'.cell? ⟨w.heap.size, 6, none⟩ = some (.int .i64 n.side) ∧ w'.cell? ⟨w.heap.size, 23, none⟩ = some (.int .i64 n.bits) ∧ nodeAt w' ⟨w.heap.size, 0, none⟩ = some n ∧ w'.heap[w.heap.size]? = some (.cells (enc n) 37 (0, 0)) ∧ Below w.heap.size w w')
      (first | exact HST.out | exact HeldN.later (by assumption) (by assumption) | exact HeldN.later (by assumption) ((Below.refl _ _).drew) | exact HeldN.later (by assumption) ((Below.refl _ _).alloc (Nat.le_refl _) _) | exact HeldN.later (by assumption) (((Below.refl _ _).alloc (Nat.le_refl _) _).drew) | assumption)
      (first | (go_at_call 119; refine (side_any _ _ HSI.out.1 HSI.out.2).mono ?_; rintro e5 w5 ⟨rfl, hB5⟩) | (go_at_call 120; refine (address_any _ _ HBY.out (HDD.out.later (HeldN.below (by assumption))) (HTT.out.later (HeldN.below (by assumption)))).mono ?_; rintro e5 w5 ⟨rfl, hB5⟩) | (go_at_call 64; refine (HIT.out _ (HTT.out.later (HeldN.below (by assumption)))).mono ?_; rintro e5 w5 ⟨rfl, hB5⟩) | (go_at_call 63; refine (HC.out _ _ (by first | (refine (rowNew ?_).2; simp) | (refine (rowNew ?_).1; simp))).mono ?_; rintro e5 w5 ⟨rfl, hB5⟩))
    rename_i hH
    have HB9 := Lib.hid hH.2.2.2.2.2.2.2
    clear hH
    go_wp2_with fail
    go_ret
    exact ⟨by rw [HP.out]; simp, HB9.out⟩
  clear l0 l1 l2 l3 l4 hb
  go_enter Tryz.func68, Tryz.ntmps68
  go_wp2_with fail
  refine (ports_any n _ HHH.out (HTT.out.later HB0.out)).mono ?_
  rintro e w1 ⟨rfl, hB1⟩
  go_wp2_with fail
  go_ret
  exact ⟨by simp [leafL, *], HB0.out.trans (hB1.mono HB0.out.size)⟩
end Go.Proofs.YtffkaphbgfdpaaaGreatDoor
end

section
/- Package show: which parts stand without brackets; how long texts are. -/
namespace Go.Proofs.YtffkaphbgfdpaaaGreatDoor
open Go.RowKit Go.Shelf Go.Deep T
set_option linter.unusedVariables false
set_option linter.unusedSimpArgs false
set_option maxRecDepth 100000

/-- A function value that says of a part whether it stands without brackets. -/
def FnBare (f : Nat) (full : Bool) : Prop := ∀ (n : Node) (right : Bool) (q : Int) (w : World), Calls Tryz.prog f #[.agg (enc n), .bool right, .int .i64 q] w fun e w' => e = .returned (.bool (bareB full n right q)) ∧ Below w.heap.size w w'
theorem bare_full : FnBare 28 true := fun n right q w => by
  have HB := Lib.hid (show Below w.heap.size w (w.alloc (.cells (enc n) 37)) from (Below.refl _ _).alloc (Nat.le_refl _) _)
  go_enter Tryz.func28, Tryz.ntmps28
  go_wp2_with fail
  go_ret
  refine ⟨?_, HB.out⟩
  show Ending.returned (Value.bool (q == 12)) = Ending.returned (Value.bool (decide (q = 12)))
  rfl
theorem bare_show : FnBare 25 false := fun n right q w => by
  have HB := Lib.hid (show Below w.heap.size w (w.alloc (.cells (enc n) 37)) from (Below.refl _ _).alloc (Nat.le_refl _) _)
  obtain ⟨r, hr⟩ : ∃ r, rowK n = r := ⟨_, rfl⟩
  have HC := Lib.hid (rowOf_any n (w.alloc (.cells (enc n) 37)))
  rw [hr] at HC
  have HR := Lib.hid hr
  clear hr
  by_cases h4 : r = 4
  case pos =>
    go_enter Tryz.func25, Tryz.ntmps25
    go_wp2_with fail
    refine HC.out.mono ?_
    rintro e w1 ⟨rfl, hB1⟩
    go_wp2_with fail
    go_ret
    refine ⟨?_, HB.out.trans (hB1.mono HB.out.size)⟩
    simp [bareB, HR.out, h4]
  by_cases h3 : r = 3
  case pos =>
    go_enter Tryz.func25, Tryz.ntmps25
    go_wp2_with fail
    refine HC.out.mono ?_
    rintro e w1 ⟨rfl, hB1⟩
    go_wp2_with fail
    go_ret
    refine ⟨?_, HB.out.trans (hB1.mono HB.out.size)⟩
    simp [bareB, HR.out, h4, h3]
  by_cases h11 : r = 11
  case pos =>
    go_enter Tryz.func25, Tryz.ntmps25
    go_wp2_with fail
    refine HC.out.mono ?_
    rintro e w1 ⟨rfl, hB1⟩
    go_wp2_with fail
    go_ret
    refine ⟨?_, HB.out.trans (hB1.mono HB.out.size)⟩
    simp [bareB, HR.out, h4, h3, h11]
  cases right
  case false =>
    go_enter Tryz.func25, Tryz.ntmps25
    go_wp2_with fail
    refine HC.out.mono ?_
    rintro e w1 ⟨rfl, hB1⟩
    go_wp2_with fail
    go_ret
    refine ⟨?_, HB.out.trans (hB1.mono HB.out.size)⟩
    simp [bareB, HR.out, h4, h3, h11]
  case true =>
    have hbz : (r == 3 || r == 11) = false := by simp [h3, h11]
    go_enter Tryz.func25, Tryz.ntmps25
    go_wp2_with fail
    refine HC.out.mono ?_
    rintro e w1 ⟨rfl, hB1⟩
    go_wp2_with fail
    go_ret
    refine ⟨?_, HB.out.trans (hB1.mono HB.out.size)⟩
    simp [bareB, HR.out, h4, h3, h11]
/-- How long a text is, and how deep. -/
theorem signL_len (n : Node) : (signL n).length ≤ 10 := by
  have h1 : ∀ i : Nat, (relW.getD i []).length ≤ 10 := fun i => by
    match i with
    | 0 | 1 | 2 | 3 | 4 | 5 | 6 => decide
    | i + 7 => exact Nat.zero_le _
  have h2 : ∀ i : Nat, (ariW.getD i []).length ≤ 10 := fun i => by
    match i with
    | 0 | 1 | 2 | 3 | 4 | 5 | 6 | 7 | 8 | 9 | 10 => decide
    | i + 11 => exact Nat.zero_le _
  unfold signL
  repeat' split
  · decide
  · decide
  · exact h1 _
  · exact h2 _
theorem leafL_len {n : Node} (h : NodeOk n) : (leafL n).length ≤ 1100 := by
  have l0 := nameL_len n.of
  have l1 := sideL_len n.side
  have l2 := numL_len n.n
  have l3 := numL_len n.m
  have l4 := addrL_len h.bytes_
  have l5 := numL_len n.bits
  have l6 : (at_ wayW n.side).length ≤ 10 := by
    have : ∀ i : Nat, (wayW.getD i []).length ≤ 10 := fun i => by
      match i with
      | 0 | 1 | 2 => decide
      | i + 3 => exact Nat.zero_le _
    exact this _
  unfold leafL portsL
  repeat' split
  all_goals
    try simp only [List.length_append, List.length_cons, List.length_nil]
    omega
theorem putS_len (b : Bool) (x : Said) : (putS b x).1.length ≤ x.1.length + 2 ∧ (putS b x).2 ≤ x.2 + 1 := by
  unfold putS
  split
  · omega
  · simp
theorem said_len (full : Bool) : ∀ T : Tr, (∀ n ∈ T.flat, NodeOk n) → (saidT full T).1.length ≤ 2000 * T.flat.length ∧ (saidT full T).2 ≤ 2 * T.flat.length
  | .leaf n, h => by
    have := leafL_len (h n (by simp [Tr.flat]))
    simp only [saidT, Tr.flat, List.length_singleton]
    omega
  | .un n x, h => by
    have ih := said_len full x fun m hm => h m (by simp [Tr.flat, hm])
    have l0 := nameL_len n.of
    have l1 := numL_len n.size
    have l2 := putS_len (bareB full n true (rowK x.root)) (saidT full x)
    have l3 : (endL n).length ≤ 22 := by
      unfold endL
      split
      · decide
      · simp only [List.length_append, List.length_cons, List.length_nil]; omega
    simp only [saidT, Tr.flat, List.length_append, List.length_singleton]
    split
    · simp only [List.length_append, List.length_cons]
      omega
    · split
      · simp only [List.length_cons]
        omega
      · simp only [List.length_append, List.length_cons, List.length_nil]
        omega
  | .bin n x y, h => by
    have i1 := said_len full x fun m hm => h m (by simp [Tr.flat, hm])
    have i2 := said_len full y fun m hm => h m (by simp [Tr.flat, hm])
    have l1 := putS_len (bareB full n false (rowK x.root)) (saidT full x)
    have l2 := putS_len (bareB full n true (rowK y.root)) (saidT full y)
    have l3 := signL_len n
    simp only [saidT, Tr.flat, List.length_append, List.length_singleton, List.length_cons]
    omega
/-- T is a part of the whole, and begins at place o. -/
structure SubAt (ns : List Node) (st : List Int) (T : Tr) (o : Nat) : Prop where
  nodes : ∀ i, i < T.flat.length → ns.getD (o + i) Node.zero = T.flat.getD i Node.zero
  starts : ∀ i, i < T.flat.length → st.getD (o + i) 0 = (T.starts o).getD i 0
  fits : o + T.flat.length ≤ ns.length
theorem getD_left {α : Type} {a b : List α} {d : α} {i : Nat} (h : i < a.length) : (a ++ b).getD i d = a.getD i d := by
  simp [List.getD_eq_getElem?_getD, List.getElem?_append_left h]
theorem getD_right {α : Type} {a b : List α} {d : α} (i : Nat) : (a ++ b).getD (a.length + i) d = b.getD i d := by
  simp [List.getD_eq_getElem?_getD, List.getElem?_append_right]
theorem SubAt.whole (T : Tr) : SubAt T.flat (T.starts 0) T 0 := ⟨fun i _ => by rw [Nat.zero_add], fun i _ => by rw [Nat.zero_add], by omega⟩
theorem SubAt.unK {ns : List Node} {st : List Int} {n : Node} {x : Tr} {o : Nat} (h : SubAt ns st (.un n x) o) : SubAt ns st x o ∧ ns.getD (o + x.flat.length) Node.zero = n := by
  have hl : (Tr.un n x).flat.length = x.flat.length + 1 := by simp [Tr.flat]
  refine ⟨⟨fun i hi => ?_, fun i hi => ?_, by have := h.fits; omega⟩, ?_⟩
  · rw [h.nodes i (by omega), Tr.flat, getD_left hi]
  · rw [h.starts i (by omega), Tr.starts, getD_left (by rw [x.starts_len]; exact hi)]
  · rw [h.nodes _ (by omega), Tr.flat]
    simp
theorem SubAt.binK {ns : List Node} {st : List Int} {n : Node} {x y : Tr} {o : Nat} (h : SubAt ns st (.bin n x y) o) : SubAt ns st x o ∧ SubAt ns st y (o + x.flat.length) ∧ ns.getD (o + x.flat.length + y.flat.length) Node.zero = n ∧ st.getD (o + x.flat.length + y.flat.length - 1) 0 = ((o + x.flat.length : Nat) : Int) := by
  have hl : (Tr.bin n x y).flat.length = x.flat.length + (y.flat.length + 1) := by simp [Tr.flat]
  have hx := x.starts_len o
  have hy := y.starts_len (o + x.flat.length)
  have hyp := y.flat_pos
  have hY : ∀ i, i < y.flat.length → st.getD (o + x.flat.length + i) 0 = (y.starts (o + x.flat.length)).getD i 0 := fun i hi => by
    have := getD_right (a := x.starts o) (b := y.starts (o + x.flat.length) ++ [(o : Int)]) (d := (0 : Int)) i
    rw [hx] at this
    rw [Nat.add_assoc, h.starts _ (by omega), Tr.starts, this, getD_left (by omega)]
  refine ⟨⟨fun i hi => ?_, fun i hi => ?_, by have := h.fits; omega⟩, ⟨fun i hi => ?_, hY, by have := h.fits; omega⟩, ?_, ?_⟩
  · rw [h.nodes i (by omega), Tr.flat, getD_left hi]
  · rw [h.starts i (by omega), Tr.starts, getD_left (by omega)]
  · rw [Nat.add_assoc, h.nodes _ (by omega), Tr.flat, getD_right, getD_left hi]
  · rw [Nat.add_assoc, h.nodes _ (by omega), Tr.flat, getD_right]
    simp
  · obtain ⟨l, e, hl2⟩ := y.starts_last (o + x.flat.length)
    have := hY (y.flat.length - 1) (by omega)
    rw [show o + x.flat.length + y.flat.length - 1 = o + x.flat.length + (y.flat.length - 1) from by omega, this, e]
    have h2 := getD_right (a := l) (b := [((o + x.flat.length : Nat) : Int)]) (d := (0 : Int)) 0
    rw [show y.flat.length - 1 = l.length + 0 from by omega, h2]
    rfl
end Go.Proofs.YtffkaphbgfdpaaaGreatDoor
end

section
/- Package show: write's two closures. -/
namespace Go.Proofs.YtffkaphbgfdpaaaGreatDoor
open Go.RowKit Go.Shelf Go.Deep T
set_option linter.unusedVariables false
set_option linter.unusedSimpArgs false
set_option maxRecDepth 100000
attribute [local go_sem ↓] Go.wp_at_zero Go.wp_at_succ

@[go_sem] theorem run_storeS_new (w : World) (c : Array Value) (x : Said) (hc : c.size = 2) :
    (storeS (.pointer (some ⟨w.heap.size, 0, none⟩)) (.agg (encS x))).run Tryz.prog (w.alloc (.cells c 91)) = .ok () (w.alloc (.cells (encS x) 91)) := by
  simp only [storeS, Instr.storeAt, Instr.sureAddr, Sem.run_bind, Sem.run_pure, Result.andThen_ok]
  have := run_storeVar_row (P := Tryz.prog) (w.alloc (.cells c 91)) w.heap.size 91 91 c (encS x) (heap_alloc_new w _) (by rw [sizeS]; rfl) (by rw [hc]; rfl) (by simp [encS, Value.oneCell'])
  rw [this, T.setRow_alloc_new]
theorem run_storeV {w : World} {g : Nat} (h : Place w g) (x : Said) : (storeS (.pointer (some ⟨g, 0, none⟩)) (.agg (encS x))).run Tryz.prog w = .ok () (w.setRow g (encS x)) := run_storeS h x.1 x.2
/-- What the two closures have caught. -/
structure Env (W : World) (bt bb bs bw bp : Nat) (b0 o0 c : Nat) (ns : List Node) (g sc : Nat) (st : List Int) (fb : Nat) : Prop where
  t : W.cell? ⟨bt, 0, none⟩ = some (.slice (some ⟨b0, o0, none⟩) ns.length c)
  b : W.cell? ⟨bb, 0, none⟩ = some (.func (.func fb) #[] #[])
  s : W.cell? ⟨bs, 0, none⟩ = some (.slice (some ⟨g, 0, none⟩) st.length sc)
  w : W.cell? ⟨bw, 0, none⟩ = some (.func (.func 62) #[] #[.pointer (some ⟨bt, 0, none⟩), .pointer (some ⟨bw, 0, none⟩), .pointer (some ⟨bs, 0, none⟩), .pointer (some ⟨bp, 0, none⟩)])
  p : W.cell? ⟨bp, 0, none⟩ = some (.func (.func 60) #[] #[.pointer (some ⟨bw, 0, none⟩), .pointer (some ⟨bb, 0, none⟩), .pointer (some ⟨bt, 0, none⟩)])
  ns_ : ∀ i, i < ns.length → nodeAt W ⟨b0, o0 + i * 24, none⟩ = some (ns.getD i Node.zero)
  st_ : ∀ j, j < st.length → W.cell? ⟨g, j, none⟩ = some (.int .i64 (st.getD j 0))
theorem Env.later {W W' : World} {bt bb bs bw bp b0 o0 c : Nat} {ns : List Node} {g sc : Nat} {st : List Int} {fb : Nat} (h : Env W bt bb bs bw bp b0 o0 c ns g sc st fb) (hB : Below W.heap.size W W') : Env W' bt bb bs bw bp b0 o0 c ns g sc st fb :=
  ⟨(hB.cell (World.block_lt_of_cell? W _ h.t)).trans h.t, (hB.cell (World.block_lt_of_cell? W _ h.b)).trans h.b, (hB.cell (World.block_lt_of_cell? W _ h.s)).trans h.s, (hB.cell (World.block_lt_of_cell? W _ h.w)).trans h.w, (hB.cell (World.block_lt_of_cell? W _ h.p)).trans h.p,
   fun i hi => nodeAt_later hB (h.ns_ i hi), fun j hj => (hB.cell (World.block_lt_of_cell? W _ (h.st_ j hj))).trans (h.st_ j hj)⟩
/-- What walk answers at a place, in whatever later world. -/
def WalkOf (w : World) (bt bw bs bp : Nat) (k : Nat) (X : Said) : Prop := ∀ W, Below w.heap.size w W → Calls Tryz.prog 62 #[.int .i64 (k : Int), .pointer (some ⟨bt, 0, none⟩), .pointer (some ⟨bw, 0, none⟩), .pointer (some ⟨bs, 0, none⟩), .pointer (some ⟨bp, 0, none⟩)] W fun e W' => e = .returned (SaidV X) ∧ Below W.heap.size W W'
def HeldP (w W : World) (bt bb bs bw bp b0 o0 c : Nat) (ns : List Node) (g sc : Nat) (st : List Int) (fb a k q r : Nat) (na nk : Node) (X : Said) : Prop := W.cell? ⟨bb, 0, none⟩ = some (.func (.func fb) #[] #[]) ∧ W.cell? ⟨bt, 0, none⟩ = some (.slice (some ⟨b0, o0, none⟩) ns.length c) ∧ nodeAt W ⟨b0, o0 + a * 24, none⟩ = some na ∧ nodeAt W ⟨b0, o0 + k * 24, none⟩ = some nk ∧ Env W bt bb bs bw bp b0 o0 c ns g sc st fb ∧ SaidAt W q X ∧ SaidAt W r ([], 0) ∧ q ≠ r ∧ w.heap.size ≤ q ∧ w.heap.size ≤ r ∧ Below w.heap.size w W
theorem heldP {w W : World} {bt bb bs bw bp b0 o0 c : Nat} {ns : List Node} {g sc : Nat} {st : List Int} {fb a k q r : Nat} {na nk : Node} {X : Said} (h : Env W bt bb bs bw bp b0 o0 c ns g sc st fb) (ha : a < ns.length) (hk : k < ns.length) (ea : ns.getD a Node.zero = na) (ek : ns.getD k Node.zero = nk) (hq : SaidAt W q X) (hr : SaidAt W r ([], 0)) (hne : q ≠ r) (h1 : w.heap.size ≤ q) (h2 : w.heap.size ≤ r) (hB : Below w.heap.size w W) : HeldP w W bt bb bs bw bp b0 o0 c ns g sc st fb a k q r na nk X :=
  ⟨h.b, h.t, ea ▸ h.ns_ a ha, ek ▸ h.ns_ k hk, h, hq, hr, hne, h1, h2, hB⟩
theorem HeldP.later {w W W' : World} {bt bb bs bw bp b0 o0 c : Nat} {ns : List Node} {g sc : Nat} {st : List Int} {fb a k q r : Nat} {na nk : Node} {X : Said} (h : HeldP w W bt bb bs bw bp b0 o0 c ns g sc st fb a k q r na nk X) (hB : Below W.heap.size W W') : HeldP w W' bt bb bs bw bp b0 o0 c ns g sc st fb a k q r na nk X := by
  obtain ⟨h1, h2, h3, h4, h5, h6, h7, h8, h9, h10, h11⟩ := h
  have h5 := h5.later hB
  exact ⟨h5.b, h5.t, nodeAt_later hB h3, nodeAt_later hB h4, h5, h6.later hB, h7.later hB, h8, h9, h10, h11.trans (hB.mono h11.size)⟩
theorem part_any {bt bb bs bw bp b0 o0 c : Nat} {ns : List Node} {g sc : Nat} {st : List Int} {fb : Nat} (full : Bool) (hfb : FnBare fb full) (hen : Enters Tryz.prog fb) (a k : Nat) (right : Bool) (X : Said) (w : World) (h : Env w bt bb bs bw bp b0 o0 c ns g sc st fb) (ha : a < ns.length) (hk : k < ns.length) (hlen : ns.length ≤ 1000000)
    (hX : X.1.length ≤ 1000000000 ∧ X.2 ≤ 900000) (hW : WalkOf w bt bw bs bp k X) :
    Calls Tryz.prog 60 #[.int .i64 (a : Int), .int .i64 (k : Int), .bool right, .pointer (some ⟨bw, 0, none⟩), .pointer (some ⟨bb, 0, none⟩), .pointer (some ⟨bt, 0, none⟩)] w fun e w' => e = .returned (SaidV (putS (bareB full (ns.getD a Node.zero) right (rowK (ns.getD k Node.zero))) X)) ∧ Below w.heap.size w w' := by
  obtain ⟨na, hna⟩ : ∃ x, ns.getD a Node.zero = x := ⟨_, rfl⟩
  obtain ⟨nk, hnk⟩ : ∃ x, ns.getD k Node.zero = x := ⟨_, rfl⟩
  rw [hna, hnk]
  have HNA := Lib.hid hna
  have HNK := Lib.hid hnk
  clear hna hnk
  have hB0 : Below w.heap.size w (w.alloc (.cells #[.string ⟨#[]⟩, .int .i64 0] 91)) := (Below.refl _ _).alloc (Nat.le_refl _) _
  have HB0 := Lib.hid hB0
  have cw := (h.later hB0).w
  have HW := Lib.hid hW
  have HE := Lib.hid h
  have HX := Lib.hid hX
  have HF := Lib.hid hfb
  clear h hW hX hfb hB0
  unfold Enters at hen
  go_enter Tryz.func60, Tryz.ntmps60
  go_wp2_with fail
  refine (HW.out _ HB0.out).mono ?_
  rintro e w1 ⟨rfl, hB1⟩
  have HB1 := Lib.hid (HB0.out.trans (hB1.mono HB0.out.size))
  have HR0 : Hid (SaidAt w1 w.heap.size ([], 0)) := Lib.hid ((SaidAt.new w ([], 0)).later hB1)
  have HSZ : Hid (w.heap.size < w1.heap.size) := Lib.hid HR0.out.lt
  clear hB1 cw
  have hE1 : Env w1 bt bb bs bw bp b0 o0 c ns g sc st fb := HE.out.later HB1.out
  have hal : Below w1.heap.size w1 (w1.alloc (.cells (encS X) 91)) := (Below.refl _ _).alloc (Nat.le_refl _) _
  have hsz : w.heap.size < w1.heap.size := HSZ.out
  have HST := Lib.hid (heldP (w := w) (hE1.later hal) ha hk HNA.out HNK.out (SaidAt.new w1 X) (HR0.out.later hal) (by omega) (by omega) (Nat.le_refl _) (HB1.out.trans (hal.mono HB1.out.size)))
  have HST2 := Lib.hid (HST.out.later (Below.refl _ _).drew)
  clear hE1 hal hsz
  go_wp2_with fail
  have a0 : (0 : Int) ≤ (a : Int) := by omega
  have a1 : (a : Int) < (ns.length : Int) := by omega
  have k0 : (0 : Int) ≤ (k : Int) := by omega
  have k1 : (k : Int) < (ns.length : Int) := by omega
  go_region_held3 (fun w' => w'.cell? ⟨bb, 0, none⟩ = some (.func (.func fb) #[] #[]) ∧ w'.cell? ⟨bt, 0, none⟩ = some (.slice (some ⟨b0, o0, none⟩) ns.length c) ∧ nodeAt w' ⟨b0, o0 + a * 24, none⟩ = some na ∧ nodeAt w' ⟨b0, o0 + k * 24, none⟩ = some nk ∧ Env w' bt bb bs bw bp b0 o0 c ns g sc st fb ∧ SaidAt w' w1.heap.size X ∧ SaidAt w' w.heap.size ([], 0) ∧ w1.heap.size ≠ w.heap.size ∧ w.heap.size ≤ w1.heap.size ∧ w.heap.size ≤ w.heap.size ∧ Below w.heap.size w w')
    (first | exact HST2.out | exact HeldP.later (by assumption) (by assumption) | exact HeldP.later (by assumption) ((Below.refl _ _).drew) | assumption)
    (first | (go_at_call 26; refine (rowOf_any _ _).mono ?_; rintro e5 w5 ⟨rfl, hB5⟩) | (refine (HF.out _ _ _ _).mono ?_; rintro e5 w5 ⟨rfl, hB5⟩))
  rename_i hH
  have HH := Lib.hid hH
  have hl := run_loadS hH.2.2.2.2.2.1
  clear hH hB5
  obtain ⟨b, hb⟩ : ∃ b, bareB full na right (rowK nk) = b := ⟨_, rfl⟩
  simp only [hb]
  cases b with
  | true =>
    have hs := run_storeV ⟨_, HH.out.2.2.2.2.2.2.1⟩ X
    go_wp2_with fail
    have hr9 : SaidAt (w5.setRow w.heap.size (encS X)) w.heap.size X := SaidAt.set ⟨_, HH.out.2.2.2.2.2.2.1⟩
    refine bodyPost_ret (results_said rfl _ rfl hr9) rfl ?_
    exact ⟨by rw [hb]; rfl, below_setRow HH.out.2.2.2.2.2.2.2.2.2.2 (Nat.le_refl _) _⟩
  | false =>
    go_wp2_with fail
    refine (inside_any [40] [41] X _ (by simp; have := HX.out.1; omega) (by have := HX.out.2; omega)).mono ?_
    rintro e w6 ⟨rfl, hB6⟩
    have hq6 : SaidAt w6 w1.heap.size X := HH.out.2.2.2.2.2.1.later hB6
    have hr6 : SaidAt w6 w.heap.size ([], 0) := HH.out.2.2.2.2.2.2.1.later hB6
    have hne : w1.heap.size ≠ w.heap.size := HH.out.2.2.2.2.2.2.2.1
    have hB6' : Below w.heap.size w w6 := HH.out.2.2.2.2.2.2.2.2.2.2.trans (hB6.mono HH.out.2.2.2.2.2.2.2.2.2.2.size)
    obtain ⟨Y, hY⟩ : ∃ Y : Said, (([40] ++ (X.1 ++ [41]), X.2 + 1) : Said) = Y := ⟨_, rfl⟩
    simp only [hY]
    have hs6 := run_storeV ⟨_, hq6⟩ Y
    have hq7 : SaidAt (w6.setRow w1.heap.size (encS Y)) w1.heap.size Y := SaidAt.set ⟨_, hq6⟩
    have hr7 : SaidAt (w6.setRow w1.heap.size (encS Y)) w.heap.size ([], 0) := hr6.other (fun h => hne h.symm)
    have hl7 := run_loadS hq7
    have hs7 := run_storeV ⟨_, hr7⟩ Y
    have hB7 : Below w.heap.size w (w6.setRow w1.heap.size (encS Y)) := below_setRow hB6' HH.out.2.2.2.2.2.2.2.2.1 _
    have hr9 : SaidAt ((w6.setRow w1.heap.size (encS Y)).setRow w.heap.size (encS Y)) w.heap.size Y := SaidAt.set ⟨_, hr7⟩
    have HR9 := Lib.hid hr9
    have HB9 := Lib.hid (below_setRow hB7 (Nat.le_refl _) (encS Y))
    have HY := Lib.hid hY
    clear hq6 hr6 hne hB6' hq7 hr7 hB7 hr9 hY hB6
    go_wp2_with fail
    refine bodyPost_ret (results_said rfl _ rfl HR9.out) rfl ?_
    exact ⟨by rw [hb, ← HY.out]; rfl, HB9.out⟩
end Go.Proofs.YtffkaphbgfdpaaaGreatDoor
end

section
/- Package show: write's walk. -/
namespace Go.Proofs.YtffkaphbgfdpaaaGreatDoor
open Go.RowKit Go.Shelf Go.Deep T
set_option linter.unusedVariables false
set_option linter.unusedSimpArgs false
set_option maxRecDepth 100000
attribute [local go_sem ↓] Go.wp_at_zero Go.wp_at_succ

/-- What a node's fields are, where its kind has parts. -/
structure NodeOk2 (n : Node) : Prop where
  ok : NodeOk n
  sign : arityK n.kind = some 2 → signOk n
  size : 0 ≤ n.size ∧ n.size ≤ 1000000
theorem kind0 {k : Int} (h : arityK k = some 0) : (k == 3) = false ∧ (k == 5) = false ∧ (k == 9) = false ∧ (k == 4) = false ∧ (k == 6) = false ∧ (k == 7) = false ∧ (k == 8) = false := by
  have : ¬ k = 3 ∧ ¬ k = 5 ∧ ¬ k = 9 ∧ ¬ k = 4 ∧ ¬ k = 6 ∧ ¬ k = 7 ∧ ¬ k = 8 := by
    unfold arityK at h
    split at h
    · omega
    · split at h
      · cases h
      · split at h <;> cases h
  simpa using this
theorem store_second (w : World) (n : Node) : (storeNode (.pointer (some ⟨w.heap.size + 1, 0, none⟩)) (.agg (enc n))).run Tryz.prog ((w.alloc (.cells #[.string ⟨#[]⟩, .int .i64 0] 91)).alloc (.cells (enc ⟨0, 0, 0, 0, 0, 0, 0, ⟨0, 0, 0, 0, 0, 0, 0, 0, 0, 0, 0, 0, 0, 0, 0, 0⟩, 0⟩) 37)) = .ok () ((w.alloc (.cells #[.string ⟨#[]⟩, .int .i64 0] 91)).alloc (.cells (enc n) 37)) := by
  have := run_storeNode_new (w := w.alloc (.cells #[.string ⟨#[]⟩, .int .i64 0] 91)) (enc ⟨0, 0, 0, 0, 0, 0, 0, ⟨0, 0, 0, 0, 0, 0, 0, 0, 0, 0, 0, 0, 0, 0, 0, 0⟩, 0⟩) n rfl
  rw [World.size_alloc] at this
  exact this
theorem walk_leaf {bt bb bs bw bp b0 o0 c : Nat} {ns : List Node} {g sc : Nat} {st : List Int} {fb : Nat} (full : Bool) (n : Node) (o : Nat) (w : World) (h : Env w bt bb bs bw bp b0 o0 c ns g sc st fb) (hT : SubAt ns st (.leaf n) o) (hfit : arityK n.kind = some 0) (hok : NodeOk2 n) (ht : Tab10 w) (hd : Deb w) (hlen : ns.length ≤ 1000000) :
    Calls Tryz.prog 62 #[.int .i64 (o : Int), .pointer (some ⟨bt, 0, none⟩), .pointer (some ⟨bw, 0, none⟩), .pointer (some ⟨bs, 0, none⟩), .pointer (some ⟨bp, 0, none⟩)] w fun e w' => e = .returned (SaidV (saidT full (.leaf n))) ∧ Below w.heap.size w w' := by
  have hB0 : Below w.heap.size w (w.alloc (.cells #[.string ⟨#[]⟩, .int .i64 0] 91)) := (Below.refl _ _).alloc (Nat.le_refl _) _
  have hB1 : Below w.heap.size w ((w.alloc (.cells #[.string ⟨#[]⟩, .int .i64 0] 91)).alloc (.cells (enc n) 37)) := hB0.alloc hB0.size _
  have hR : SaidAt ((w.alloc (.cells #[.string ⟨#[]⟩, .int .i64 0] 91)).alloc (.cells (enc n) 37)) w.heap.size ([], 0) := (SaidAt.new w ([], 0)).later ((Below.refl _ _).alloc (Nat.le_refl _) _)
  have hE := h.later hB0
  have ct := hE.t
  have ho : o < ns.length := by have := hT.fits; simp [Tr.flat] at this; omega
  have hn : nodeAt (w.alloc (.cells #[.string ⟨#[]⟩, .int .i64 0] 91)) ⟨b0, o0 + o * 24, none⟩ = some n := by
    rw [hE.ns_ o ho]
    have := hT.nodes 0 (by simp [Tr.flat])
    simp only [Nat.add_zero] at this
    rw [this]
    rfl
  obtain ⟨k3, k5, k9, k4, k6, k7, k8⟩ := kind0 hfit
  have HB1 := Lib.hid hB1
  have HR := Lib.hid hR
  have HOK := Lib.hid hok
  have HT := Lib.hid (ht.later hB1)
  have HD := Lib.hid (hd.later hB1)
  have hst := store_second w n
  have hn7 : nodeAt ((w.alloc (.cells #[.string ⟨#[]⟩, .int .i64 0] 91)).alloc (.cells (enc n) 37)) ⟨w.heap.size + 1, 0, none⟩ = some n := by
    have := heap_alloc_new (w.alloc (.cells #[.string ⟨#[]⟩, .int .i64 0] 91)) (.cells (enc n) 37)
    rw [World.size_alloc] at this
    exact nodeAt_row this
  have o1 : (0 : Int) ≤ (o : Int) := by omega
  have o2 : (o : Int) < (ns.length : Int) := by omega
  clear h hT hfit hok ht hd hB0 hB1 hR hE ho hlen
  go_enter Tryz.func62, Tryz.ntmps62
  go_wp2_with fail
  refine (leaf_any n _ HOK.out.ok HT.out HD.out).mono ?_
  rintro e w1 ⟨rfl, hB2⟩
  have hr1 : SaidAt w1 w.heap.size ([], 0) := HR.out.later hB2
  have hs := run_storeS ⟨_, hr1⟩ (leafL n) 0
  rw [show ((0 : Nat) : Int) = 0 from rfl] at hs
  have HR9 : Hid (SaidAt (w1.setRow w.heap.size (encS (leafL n, 0))) w.heap.size (leafL n, 0)) := Lib.hid (SaidAt.set ⟨_, hr1⟩)
  have HB9 := Lib.hid (below_setRow (HB1.out.trans (hB2.mono HB1.out.size)) (Nat.le_refl _) (encS (leafL n, 0)))
  clear hst hr1 hB2 hn7
  go_wp2_with fail
  refine bodyPost_ret (results_said rfl _ rfl HR9.out) rfl ?_
  exact ⟨rfl, HB9.out⟩
end Go.Proofs.YtffkaphbgfdpaaaGreatDoor
end

section
/- Package show: write's walk at a node of one part. -/
namespace Go.Proofs.YtffkaphbgfdpaaaGreatDoor
open Go.RowKit Go.Shelf Go.Deep T
set_option linter.unusedVariables false
set_option linter.unusedSimpArgs false
set_option maxRecDepth 100000
attribute [local go_sem ↓] Go.wp_at_zero Go.wp_at_succ

theorem WalkOf.later {w W : World} {bt bw bv bp k : Nat} {X : Said} (h : WalkOf w bt bw bv bp k X) (hB : Below w.heap.size w W) : WalkOf W bt bw bv bp k X := fun W' hB' => h W' (hB.trans (hB'.mono hB.size))
/-- What write's closures have caught, and a place for a result. -/
def HeldW (w W : World) (bt bb bv bw bp b0 o0 c : Nat) (ns : List Node) (g sc : Nat) (st : List Int) (fb : Nat) (r : Nat) : Prop := W.cell? ⟨bp, 0, none⟩ = some (.func (.func 60) #[] #[.pointer (some ⟨bw, 0, none⟩), .pointer (some ⟨bb, 0, none⟩), .pointer (some ⟨bt, 0, none⟩)]) ∧ W.cell? ⟨bv, 0, none⟩ = some (.slice (some ⟨g, 0, none⟩) st.length sc) ∧ (∀ x : Said, (storeS (.pointer (some ⟨r, 0, none⟩)) (.agg (encS x))).run Tryz.prog W = .ok () (W.setRow r (encS x))) ∧ Env w bt bb bv bw bp b0 o0 c ns g sc st fb ∧ Place W r ∧ w.heap.size ≤ r ∧ Below w.heap.size w W
theorem heldW {w W : World} {bt bb bv bw bp b0 o0 c : Nat} {ns : List Node} {g sc : Nat} {st : List Int} {fb : Nat} {r : Nat} (h : Env w bt bb bv bw bp b0 o0 c ns g sc st fb) (hP : Place W r) (h1 : w.heap.size ≤ r) (hB : Below w.heap.size w W) : HeldW w W bt bb bv bw bp b0 o0 c ns g sc st fb r :=
  ⟨(h.later hB).p, (h.later hB).s, run_storeV hP, h, hP, h1, hB⟩
theorem HeldW.later {w W W' : World} {bt bb bv bw bp b0 o0 c : Nat} {ns : List Node} {g sc : Nat} {st : List Int} {fb : Nat} {r : Nat} (h : HeldW w W bt bb bv bw bp b0 o0 c ns g sc st fb r) (hB : Below W.heap.size W W') : HeldW w W' bt bb bv bw bp b0 o0 c ns g sc st fb r :=
  heldW h.2.2.2.1 (h.2.2.2.2.1.later hB) h.2.2.2.2.2.1 (h.2.2.2.2.2.2.trans (hB.mono h.2.2.2.2.2.2.size))
theorem HeldW.set {w W : World} {bt bb bv bw bp b0 o0 c : Nat} {ns : List Node} {g sc : Nat} {st : List Int} {fb : Nat} {r : Nat} {y : Said} (h : HeldW w W bt bb bv bw bp b0 o0 c ns g sc st fb r) : HeldW w (W.setRow r (encS y)) bt bb bv bw bp b0 o0 c ns g sc st fb r :=
  heldW h.2.2.2.1 ⟨_, SaidAt.set h.2.2.2.2.1⟩ h.2.2.2.2.2.1 (below_setRow h.2.2.2.2.2.2 h.2.2.2.2.2.1 _)
theorem lastW {w W : World} {bt bb bv bw bp b0 o0 c : Nat} {ns : List Node} {g sc : Nat} {st : List Int} {fb : Nat} {r : Nat} (h : HeldW w W bt bb bv bw bp b0 o0 c ns g sc st fb r) : Below w.heap.size w W := h.2.2.2.2.2.2
theorem walk_minus {bt bb bv bw bp b0 o0 c : Nat} {ns : List Node} {g sc : Nat} {st : List Int} {fb : Nat} (full : Bool) (hfb : FnBare fb full) (hen : Enters Tryz.prog fb) (n : Node) (x : Tr) (a k : Nat) (w : World) (h : Env w bt bb bv bw bp b0 o0 c ns g sc st fb) (ha : a < ns.length) (hna : ns.getD a Node.zero = n) (hnk : ns.getD k Node.zero = x.root) (hak : a = k + 1) (hk5 : n.kind = 5) (hlen : ns.length ≤ 1000000) (hX : (saidT full x).1.length ≤ 1000000000 ∧ (saidT full x).2 ≤ 800000) (hW : WalkOf w bt bw bv bp k (saidT full x)) :
    Calls Tryz.prog 62 #[.int .i64 (a : Int), .pointer (some ⟨bt, 0, none⟩), .pointer (some ⟨bw, 0, none⟩), .pointer (some ⟨bv, 0, none⟩), .pointer (some ⟨bp, 0, none⟩)] w fun e w' => e = .returned (SaidV (saidT full (.un n x))) ∧ Below w.heap.size w w' := by
  have hB0 : Below w.heap.size w (w.alloc (.cells #[.string ⟨#[]⟩, .int .i64 0] 91)) := (Below.refl _ _).alloc (Nat.le_refl _) _
  have hB1 : Below w.heap.size w ((w.alloc (.cells #[.string ⟨#[]⟩, .int .i64 0] 91)).alloc (.cells (enc n) 37)) := hB0.alloc hB0.size _
  have hR : SaidAt ((w.alloc (.cells #[.string ⟨#[]⟩, .int .i64 0] 91)).alloc (.cells (enc n) 37)) w.heap.size ([], 0) := (SaidAt.new w ([], 0)).later ((Below.refl _ _).alloc (Nat.le_refl _) _)
  have hE := h.later hB0
  have ct := hE.t
  have hn : nodeAt (w.alloc (.cells #[.string ⟨#[]⟩, .int .i64 0] 91)) ⟨b0, o0 + a * 24, none⟩ = some n := by
    rw [hE.ns_ a ha, hna]
  have HST := Lib.hid ((heldW h ⟨_, hR⟩ (Nat.le_refl _) hB1).later (Below.refl _ _).drew)
  have hst := store_second w n
  have o1 : (0 : Int) ≤ (a : Int) := by omega
  have o2 : (a : Int) < (ns.length : Int) := by omega
  have hkv : (a : Int) - 1 = (k : Int) := by omega
  have HRT := Lib.hid (fun (W : World) (v : Value) => by have := right_any v (a : Int) W (by omega) (by omega); rw [hkv] at this; exact this)
  have HPT := Lib.hid (fun (W : World) (hE : Env W bt bb bv bw bp b0 o0 c ns g sc st fb) (hw : WalkOf W bt bw bv bp k (saidT full x)) => by have := part_any full hfb hen a k true (saidT full x) W hE ha (by omega) hlen ⟨hX.1, by omega⟩ hw; rw [hna, hnk] at this; exact this)
  have HW := Lib.hid hW
  have hpl := putS_len (bareB full n true (rowK x.root)) (saidT full x)
  obtain ⟨Y, hY⟩ : ∃ Y, putS (bareB full n true (rowK x.root)) (saidT full x) = Y := ⟨_, rfl⟩
  rw [hY] at HPT hpl
  have hYl : ([45] ++ (Y.1 ++ [])).length ≤ 140737488355328 := by simp; omega
  have hYd : Y.2 ≤ 1000000 := by omega
  have HIN := Lib.hid (fun (W : World) => inside_any [45] [] Y W hYl hYd)
  have HF : Hid (saidT full (.un n x) = ([45] ++ (Y.1 ++ []), Y.2 + 1)) := Lib.hid (by simp [saidT, hk5, hY])
  have k3 : (n.kind == 3) = false := by rw [hk5]; rfl
  have k5 : (n.kind == 5) = true := by rw [hk5]; rfl
  clear h ha hna hnk hak hk5 hlen hX hW hB0 hB1 hR hE hkv hpl hY hYl hYd hfb hen
  go_enter Tryz.func62, Tryz.ntmps62
  go_wp2_with fail
  clear hst hn ct
  go_region_held3 (fun w' => w'.cell? ⟨bp, 0, none⟩ = some (.func (.func 60) #[] #[.pointer (some ⟨bw, 0, none⟩), .pointer (some ⟨bb, 0, none⟩), .pointer (some ⟨bt, 0, none⟩)]) ∧ w'.cell? ⟨bv, 0, none⟩ = some (.slice (some ⟨g, 0, none⟩) st.length sc) ∧ (∀ x : Said, (storeS (.pointer (some ⟨w.heap.size, 0, none⟩)) (.agg (encS x))).run Tryz.prog w' = .ok () (w'.setRow w.heap.size (encS x))) ∧ Env w bt bb bv bw bp b0 o0 c ns g sc st fb ∧ Place w' w.heap.size ∧ w.heap.size ≤ w.heap.size ∧ Below w.heap.size w w')
    (first | exact HST.out | exact HeldW.later (by assumption) (by assumption) | exact HeldW.later (by assumption) ((Below.refl _ _).drew) | exact HeldW.set (by assumption) | assumption)
    (first | (go_at_call 66; refine (HRT.out _ _).mono ?_; rintro e5 w5 ⟨rfl, rfl⟩) | (go_at_call 60; refine (HPT.out _ (Env.later HST.out.2.2.2.1 (lastW (by assumption))) (HW.out.later (lastW (by assumption)))).mono ?_; rintro e5 w5 ⟨rfl, hB5⟩) | (go_at_call 61; refine (HIN.out _).mono ?_; rintro e5 w5 ⟨rfl, hB5⟩))
  rename_i hH
  have HR9 := Lib.hid (Place.row hH.2.2.2.2.1)
  have HB9 := Lib.hid hH.2.2.2.2.2.2
  clear hH
  go_wp2_with fail
  refine bodyPost_ret (results_said rfl _ rfl HR9.out) rfl ?_
  exact ⟨by rw [HF.out]; simp, HB9.out⟩
theorem walk_not {bt bb bv bw bp b0 o0 c : Nat} {ns : List Node} {g sc : Nat} {st : List Int} {fb : Nat} (full : Bool) (hfb : FnBare fb full) (hen : Enters Tryz.prog fb) (n : Node) (x : Tr) (a k : Nat) (w : World) (h : Env w bt bb bv bw bp b0 o0 c ns g sc st fb) (ha : a < ns.length) (hna : ns.getD a Node.zero = n) (hnk : ns.getD k Node.zero = x.root) (hak : a = k + 1) (hk5 : n.kind = 9) (hlen : ns.length ≤ 1000000) (hX : (saidT full x).1.length ≤ 1000000000 ∧ (saidT full x).2 ≤ 800000) (hW : WalkOf w bt bw bv bp k (saidT full x)) :
    Calls Tryz.prog 62 #[.int .i64 (a : Int), .pointer (some ⟨bt, 0, none⟩), .pointer (some ⟨bw, 0, none⟩), .pointer (some ⟨bv, 0, none⟩), .pointer (some ⟨bp, 0, none⟩)] w fun e w' => e = .returned (SaidV (saidT full (.un n x))) ∧ Below w.heap.size w w' := by
  have hB0 : Below w.heap.size w (w.alloc (.cells #[.string ⟨#[]⟩, .int .i64 0] 91)) := (Below.refl _ _).alloc (Nat.le_refl _) _
  have hB1 : Below w.heap.size w ((w.alloc (.cells #[.string ⟨#[]⟩, .int .i64 0] 91)).alloc (.cells (enc n) 37)) := hB0.alloc hB0.size _
  have hR : SaidAt ((w.alloc (.cells #[.string ⟨#[]⟩, .int .i64 0] 91)).alloc (.cells (enc n) 37)) w.heap.size ([], 0) := (SaidAt.new w ([], 0)).later ((Below.refl _ _).alloc (Nat.le_refl _) _)
  have hE := h.later hB0
  have ct := hE.t
  have hn : nodeAt (w.alloc (.cells #[.string ⟨#[]⟩, .int .i64 0] 91)) ⟨b0, o0 + a * 24, none⟩ = some n := by
    rw [hE.ns_ a ha, hna]
  have HST := Lib.hid ((heldW h ⟨_, hR⟩ (Nat.le_refl _) hB1).later (Below.refl _ _).drew)
  have hst := store_second w n
  have o1 : (0 : Int) ≤ (a : Int) := by omega
  have o2 : (a : Int) < (ns.length : Int) := by omega
  have hkv : (a : Int) - 1 = (k : Int) := by omega
  have HRT := Lib.hid (fun (W : World) (v : Value) => by have := right_any v (a : Int) W (by omega) (by omega); rw [hkv] at this; exact this)
  have HPT := Lib.hid (fun (W : World) (hE : Env W bt bb bv bw bp b0 o0 c ns g sc st fb) (hw : WalkOf W bt bw bv bp k (saidT full x)) => by have := part_any full hfb hen a k true (saidT full x) W hE ha (by omega) hlen ⟨hX.1, by omega⟩ hw; rw [hna, hnk] at this; exact this)
  have HW := Lib.hid hW
  have hpl := putS_len (bareB full n true (rowK x.root)) (saidT full x)
  obtain ⟨Y, hY⟩ : ∃ Y, putS (bareB full n true (rowK x.root)) (saidT full x) = Y := ⟨_, rfl⟩
  rw [hY] at HPT hpl
  have hYl : ([110, 111, 116, 32] ++ (Y.1 ++ [])).length ≤ 140737488355328 := by simp; omega
  have hYd : Y.2 ≤ 1000000 := by omega
  have HIN := Lib.hid (fun (W : World) => inside_any [110, 111, 116, 32] [] Y W hYl hYd)
  have HF : Hid (saidT full (.un n x) = ([110, 111, 116, 32] ++ (Y.1 ++ []), Y.2 + 1)) := Lib.hid (by simp [saidT, hk5, hY])
  have k3 : (n.kind == 3) = false := by rw [hk5]; rfl
  have k5 : (n.kind == 5) = false := by rw [hk5]; rfl
  have k9 : (n.kind == 9) = true := by rw [hk5]; rfl
  clear h ha hna hnk hak hk5 hlen hX hW hB0 hB1 hR hE hkv hpl hY hYl hYd hfb hen
  go_enter Tryz.func62, Tryz.ntmps62
  go_wp2_with fail
  clear hst hn ct
  go_region_held3 (fun w' => w'.cell? ⟨bp, 0, none⟩ = some (.func (.func 60) #[] #[.pointer (some ⟨bw, 0, none⟩), .pointer (some ⟨bb, 0, none⟩), .pointer (some ⟨bt, 0, none⟩)]) ∧ w'.cell? ⟨bv, 0, none⟩ = some (.slice (some ⟨g, 0, none⟩) st.length sc) ∧ (∀ x : Said, (storeS (.pointer (some ⟨w.heap.size, 0, none⟩)) (.agg (encS x))).run Tryz.prog w' = .ok () (w'.setRow w.heap.size (encS x))) ∧ Env w bt bb bv bw bp b0 o0 c ns g sc st fb ∧ Place w' w.heap.size ∧ w.heap.size ≤ w.heap.size ∧ Below w.heap.size w w')
    (first | exact HST.out | exact HeldW.later (by assumption) (by assumption) | exact HeldW.later (by assumption) ((Below.refl _ _).drew) | exact HeldW.set (by assumption) | assumption)
    (first | (go_at_call 66; refine (HRT.out _ _).mono ?_; rintro e5 w5 ⟨rfl, rfl⟩) | (go_at_call 60; refine (HPT.out _ (Env.later HST.out.2.2.2.1 (lastW (by assumption))) (HW.out.later (lastW (by assumption)))).mono ?_; rintro e5 w5 ⟨rfl, hB5⟩) | (go_at_call 61; refine (HIN.out _).mono ?_; rintro e5 w5 ⟨rfl, hB5⟩))
  rename_i hH
  have HR9 := Lib.hid (Place.row hH.2.2.2.2.1)
  have HB9 := Lib.hid hH.2.2.2.2.2.2
  clear hH
  go_wp2_with fail
  refine bodyPost_ret (results_said rfl _ rfl HR9.out) rfl ?_
  exact ⟨by rw [HF.out]; simp, HB9.out⟩
end Go.Proofs.YtffkaphbgfdpaaaGreatDoor
end

section
/- Package show: write's walk at a load. -/
namespace Go.Proofs.YtffkaphbgfdpaaaGreatDoor
open Go.RowKit Go.Shelf Go.Deep T
set_option linter.unusedVariables false
set_option linter.unusedSimpArgs false
set_option maxRecDepth 100000
attribute [local go_sem ↓] Go.wp_at_zero Go.wp_at_succ

def HeldL (w W : World) (bt bb bv bw bp b0 o0 c : Nat) (ns : List Node) (g sc : Nat) (st : List Int) (fb : Nat) (r q : Nat) (n : Node) : Prop := W.cell? ⟨bw, 0, none⟩ = some (.func (.func 62) #[] #[.pointer (some ⟨bt, 0, none⟩), .pointer (some ⟨bw, 0, none⟩), .pointer (some ⟨bv, 0, none⟩), .pointer (some ⟨bp, 0, none⟩)]) ∧ W.cell? ⟨bv, 0, none⟩ = some (.slice (some ⟨g, 0, none⟩) st.length sc) ∧ W.cell? ⟨q, 5, none⟩ = some (.int .i64 n.of) ∧ (∀ x : Said, (storeS (.pointer (some ⟨r, 0, none⟩)) (.agg (encS x))).run Tryz.prog W = .ok () (W.setRow r (encS x))) ∧ Env w bt bb bv bw bp b0 o0 c ns g sc st fb ∧ Place W r ∧ r ≠ q ∧ w.heap.size ≤ r ∧ Below w.heap.size w W
theorem heldL {w W : World} {bt bb bv bw bp b0 o0 c : Nat} {ns : List Node} {g sc : Nat} {st : List Int} {fb : Nat} {r q : Nat} {n : Node} (h : Env w bt bb bv bw bp b0 o0 c ns g sc st fb) (h5 : W.cell? ⟨q, 5, none⟩ = some (.int .i64 n.of)) (hP : Place W r) (hne : r ≠ q) (h1 : w.heap.size ≤ r) (hB : Below w.heap.size w W) : HeldL w W bt bb bv bw bp b0 o0 c ns g sc st fb r q n :=
  ⟨(h.later hB).w, (h.later hB).s, h5, run_storeV hP, h, hP, hne, h1, hB⟩
theorem HeldL.later {w W W' : World} {bt bb bv bw bp b0 o0 c : Nat} {ns : List Node} {g sc : Nat} {st : List Int} {fb : Nat} {r q : Nat} {n : Node} (h : HeldL w W bt bb bv bw bp b0 o0 c ns g sc st fb r q n) (hB : Below W.heap.size W W') : HeldL w W' bt bb bv bw bp b0 o0 c ns g sc st fb r q n := by
  obtain ⟨a1, a2, a3, a4, a5, a6, a7, a8, a9⟩ := h
  exact heldL a5 ((hB.cell (World.block_lt_of_cell? W _ a3)).trans a3) (a6.later hB) a7 a8 (a9.trans (hB.mono a9.size))
theorem HeldL.set {w W : World} {bt bb bv bw bp b0 o0 c : Nat} {ns : List Node} {g sc : Nat} {st : List Int} {fb : Nat} {r q : Nat} {n : Node} {y : Said} (h : HeldL w W bt bb bv bw bp b0 o0 c ns g sc st fb r q n) : HeldL w (W.setRow r (encS y)) bt bb bv bw bp b0 o0 c ns g sc st fb r q n := by
  obtain ⟨a1, a2, a3, a4, a5, a6, a7, a8, a9⟩ := h
  exact heldL a5 ((cell_setRow_other W r _ ⟨q, 5, none⟩ (fun h => a7 h.symm)).trans a3) ⟨_, SaidAt.set a6⟩ a7 a8 (below_setRow a9 a8 _)
theorem lastL {w W : World} {bt bb bv bw bp b0 o0 c : Nat} {ns : List Node} {g sc : Nat} {st : List Int} {fb : Nat} {r q : Nat} {n : Node} (h : HeldL w W bt bb bv bw bp b0 o0 c ns g sc st fb r q n) : Below w.heap.size w W := h.2.2.2.2.2.2.2.2
theorem walk_load {bt bb bv bw bp b0 o0 c : Nat} {ns : List Node} {g sc : Nat} {st : List Int} {fb : Nat} (full : Bool) (n : Node) (x : Tr) (a k : Nat) (w : World) (h : Env w bt bb bv bw bp b0 o0 c ns g sc st fb) (ha : a < ns.length) (hna : ns.getD a Node.zero = n) (hak : a = k + 1) (hk3 : n.kind = 3) (hok : NodeOk2 n) (ht : Tab10 w) (hlen : ns.length ≤ 1000000) (hX : (saidT full x).1.length ≤ 1000000000 ∧ (saidT full x).2 ≤ 800000) (hW : WalkOf w bt bw bv bp k (saidT full x)) :
    Calls Tryz.prog 62 #[.int .i64 (a : Int), .pointer (some ⟨bt, 0, none⟩), .pointer (some ⟨bw, 0, none⟩), .pointer (some ⟨bv, 0, none⟩), .pointer (some ⟨bp, 0, none⟩)] w fun e w' => e = .returned (SaidV (saidT full (.un n x))) ∧ Below w.heap.size w w' := by
  have hB0 : Below w.heap.size w (w.alloc (.cells #[.string ⟨#[]⟩, .int .i64 0] 91)) := (Below.refl _ _).alloc (Nat.le_refl _) _
  have hB1 : Below w.heap.size w ((w.alloc (.cells #[.string ⟨#[]⟩, .int .i64 0] 91)).alloc (.cells (enc n) 37)) := hB0.alloc hB0.size _
  have hR : SaidAt ((w.alloc (.cells #[.string ⟨#[]⟩, .int .i64 0] 91)).alloc (.cells (enc n) 37)) w.heap.size ([], 0) := (SaidAt.new w ([], 0)).later ((Below.refl _ _).alloc (Nat.le_refl _) _)
  have hE := h.later hB0
  have ct := hE.t
  have hn : nodeAt (w.alloc (.cells #[.string ⟨#[]⟩, .int .i64 0] 91)) ⟨b0, o0 + a * 24, none⟩ = some n := by
    rw [hE.ns_ a ha, hna]
  have hrow := heap_alloc_new (w.alloc (.cells #[.string ⟨#[]⟩, .int .i64 0] 91)) (.cells (enc n) 37)
  rw [World.size_alloc] at hrow
  have HST0 := Lib.hid (heldL (n := n) h ((cell_of_row _ _ 5 _ _ _ hrow).trans rfl) ⟨_, hR⟩ (Nat.ne_of_lt (Nat.lt_succ_self _)) (Nat.le_refl _) hB1)
  have hst := store_second w n
  have o1 : (0 : Int) ≤ (a : Int) := by omega
  have o2 : (a : Int) < (ns.length : Int) := by omega
  have hkv : (a : Int) - 1 = (k : Int) := by omega
  have HRT := Lib.hid (fun (W : World) (v : Value) => by have := right_any v (a : Int) W (by omega) (by omega); rw [hkv] at this; exact this)
  obtain ⟨X, hXe⟩ : ∃ X, saidT full x = X := ⟨_, rfl⟩
  rw [hXe] at hX hW
  have HW := Lib.hid hW
  have HOF := Lib.hid hok.ok.of_
  have l0 := nameL_len n.of
  obtain ⟨m, hm⟩ : ∃ m : Nat, n.size = (m : Int) := ⟨n.size.toNat, by have := hok.size.1; omega⟩
  have hm9 : m ≤ 1000000 := by have := hok.size.2; omega
  have l1 := dcl_len m
  have hz1 : [nameL n.of, [91]].flatten.length ≤ 140737488355328 := by simp; omega
  have HC1 := Lib.hid (fun (W : World) (g : Nat) h => text_any g 2 [nameL n.of, [91]] W h rfl hz1 (by decide))
  have HT := Lib.hid (ht.later hB1)
  have k3 : (n.kind == 3) = true := by rw [hk3]; rfl
  have hXd : X.2 ≤ 1000000 := by omega
  by_cases hs : n.size = 1
  · have HIN := Lib.hid (fun (W : World) => inside_any (nameL n.of ++ [91]) [93] X W (by simp; omega) hXd)
    have HF : Hid (saidT full (.un n x) = (nameL n.of ++ [91] ++ (X.1 ++ [93]), X.2 + 1)) := Lib.hid (by simp [saidT, hk3, hXe, endL, hs])
    have HST := Lib.hid (HST0.out.later (Below.refl _ _).drew)
    have b1 : (n.size != 1) = false := by simp [hs]
    clear h ha hna hak hk3 hlen hX hW hB0 hB1 hR hE hkv hXe hz1 hm hm9 l0 l1 hs hrow hok ht hXd HT
    go_enter Tryz.func62, Tryz.ntmps62
    go_wp2_with fail
    clear hst hn ct
    go_region_held3 (fun w' => w'.cell? ⟨bw, 0, none⟩ = some (.func (.func 62) #[] #[.pointer (some ⟨bt, 0, none⟩), .pointer (some ⟨bw, 0, none⟩), .pointer (some ⟨bv, 0, none⟩), .pointer (some ⟨bp, 0, none⟩)]) ∧ w'.cell? ⟨bv, 0, none⟩ = some (.slice (some ⟨g, 0, none⟩) st.length sc) ∧ w'.cell? ⟨w.heap.size + 1, 5, none⟩ = some (.int .i64 n.of) ∧ (∀ x : Said, (storeS (.pointer (some ⟨w.heap.size, 0, none⟩)) (.agg (encS x))).run Tryz.prog w' = .ok () (w'.setRow w.heap.size (encS x))) ∧ Env w bt bb bv bw bp b0 o0 c ns g sc st fb ∧ Place w' w.heap.size ∧ w.heap.size ≠ w.heap.size + 1 ∧ w.heap.size ≤ w.heap.size ∧ Below w.heap.size w w')
      (first | exact HST.out | exact HeldL.later (by assumption) (by assumption) | exact HeldL.later (by assumption) ((Below.refl _ _).drew) | exact HeldL.later (by assumption) ((Below.refl _ _).alloc (Nat.le_refl _) _) | exact HeldL.later (by assumption) (((Below.refl _ _).alloc (Nat.le_refl _) _).drew) | exact HeldL.set (by assumption) | assumption)
      (first | (go_at_call 66; refine (HRT.out _ _).mono ?_; rintro e5 w5 ⟨rfl, rfl⟩) | (go_at_call 65; refine (name_any _ _ HOF.out.1 HOF.out.2).mono ?_; rintro e5 w5 ⟨rfl, hB5⟩) | (go_at_call 63; refine (HC1.out _ _ (by first | (refine (rowNew ?_).2; simp) | (refine (rowNew ?_).1; simp))).mono ?_; rintro e5 w5 ⟨rfl, hB5⟩) | (go_at_call 62; refine (HW.out _ (lastL (by assumption))).mono ?_; rintro e5 w5 ⟨rfl, hB5⟩) | (go_at_call 61; refine (HIN.out _).mono ?_; rintro e5 w5 ⟨rfl, hB5⟩))
    rename_i hH
    have HR9 := Lib.hid (Place.row hH.2.2.2.2.2.1)
    have HB9 := Lib.hid hH.2.2.2.2.2.2.2.2
    clear hH
    go_wp2_with fail
    refine bodyPost_ret (results_said rfl _ rfl HR9.out) rfl ?_
    exact ⟨by rw [HF.out]; simp, HB9.out⟩
  · have HIN := Lib.hid (fun (W : World) => inside_any (nameL n.of ++ [91]) (58 :: (dcl m ++ [93])) X W (by simp; omega) hXd)
    have HF : Hid (saidT full (.un n x) = (nameL n.of ++ [91] ++ (X.1 ++ (58 :: (dcl m ++ [93]))), X.2 + 1)) := Lib.hid (by simp [saidT, hk3, hXe, endL, hs]; simp [numL, hm])
    have hz2 : [[58], dcl m, [93]].flatten.length ≤ 140737488355328 := by simp; omega
    have HC2 := Lib.hid (fun (W : World) (g : Nat) h => text_any g 3 [[58], dcl m, [93]] W h rfl hz2 (by decide))
    have b1 : ((m : Int) != 1) = true := by
      have : ¬ (m : Int) = 1 := by rw [← hm]; exact hs
      simpa using this
    have HIT := Lib.hid (itoa_any m _ (by omega) HT.out)
    clear h ha hna hak hk3 hlen hX hW hB0 hB1 hR hE hkv hXe hz1 hz2 hm9 l0 l1 hs hrow hok ht hXd HT
    go_enter Tryz.func62, Tryz.ntmps62
    go_wp2_with fail
    refine HIT.out.mono ?_
    rintro e w1 ⟨rfl, hB1⟩
    have HL1 := Lib.hid (HST0.out.later hB1)
    clear hB1 hst hn ct
    go_wp2_with fail
    refine (HC2.out _ _ (by first | (refine (rowNew ?_).2; simp) | (refine (rowNew ?_).1; simp))).mono ?_
    rintro e w2 ⟨rfl, hB2⟩
    have HST := Lib.hid (((HL1.out.later ((Below.refl _ _).alloc (Nat.le_refl _) _)).later hB2).later (Below.refl _ _).drew)
    clear hB2
    go_wp2_with fail
    go_region_held3 (fun w' => w'.cell? ⟨bw, 0, none⟩ = some (.func (.func 62) #[] #[.pointer (some ⟨bt, 0, none⟩), .pointer (some ⟨bw, 0, none⟩), .pointer (some ⟨bv, 0, none⟩), .pointer (some ⟨bp, 0, none⟩)]) ∧ w'.cell? ⟨bv, 0, none⟩ = some (.slice (some ⟨g, 0, none⟩) st.length sc) ∧ w'.cell? ⟨w.heap.size + 1, 5, none⟩ = some (.int .i64 n.of) ∧ (∀ x : Said, (storeS (.pointer (some ⟨w.heap.size, 0, none⟩)) (.agg (encS x))).run Tryz.prog w' = .ok () (w'.setRow w.heap.size (encS x))) ∧ Env w bt bb bv bw bp b0 o0 c ns g sc st fb ∧ Place w' w.heap.size ∧ w.heap.size ≠ w.heap.size + 1 ∧ w.heap.size ≤ w.heap.size ∧ Below w.heap.size w w')
      (first | exact HST.out | exact HeldL.later (by assumption) (by assumption) | exact HeldL.later (by assumption) ((Below.refl _ _).drew) | exact HeldL.later (by assumption) ((Below.refl _ _).alloc (Nat.le_refl _) _) | exact HeldL.later (by assumption) (((Below.refl _ _).alloc (Nat.le_refl _) _).drew) | exact HeldL.set (by assumption) | assumption)
      (first | (go_at_call 66; refine (HRT.out _ _).mono ?_; rintro e5 w5 ⟨rfl, rfl⟩) | (go_at_call 65; refine (name_any _ _ HOF.out.1 HOF.out.2).mono ?_; rintro e5 w5 ⟨rfl, hB5⟩) | (go_at_call 63; refine (HC1.out _ _ (by first | (refine (rowNew ?_).2; simp) | (refine (rowNew ?_).1; simp))).mono ?_; rintro e5 w5 ⟨rfl, hB5⟩) | (go_at_call 62; refine (HW.out _ (lastL (by assumption))).mono ?_; rintro e5 w5 ⟨rfl, hB5⟩) | (go_at_call 61; refine (HIN.out _).mono ?_; rintro e5 w5 ⟨rfl, hB5⟩))
    rename_i hH
    have HR9 := Lib.hid (Place.row hH.2.2.2.2.2.1)
    have HB9 := Lib.hid hH.2.2.2.2.2.2.2.2
    clear hH
    go_wp2_with fail
    refine bodyPost_ret (results_said rfl _ rfl HR9.out) rfl ?_
    exact ⟨by rw [HF.out]; simp, HB9.out⟩
end Go.Proofs.YtffkaphbgfdpaaaGreatDoor
end

section
/- Two texts, made one behind the other. -/
namespace Go.Proofs.YtffkaphbgfdpaaaGreatDoor
open Go.RowKit Go.Shelf Go.Deep T
set_option linter.unusedVariables false
set_option linter.unusedSimpArgs false
set_option maxRecDepth 100000

theorem setRow_under (w : World) (c c' : Array Value) (t : TypeId) (o : Obj) : ((w.alloc (.cells c t)).alloc o).setRow w.heap.size c' = (w.alloc (.cells c' t)).alloc o := by
  simp only [World.setRow, World.alloc]
  congr 1
  apply Array.ext_getElem?
  intro i
  rw [Array.getElem?_modify, Array.getElem?_push, Array.getElem?_push, Array.getElem?_push, Array.getElem?_push]
  simp only [Array.size_push]
  by_cases h1 : i = w.heap.size
  · subst h1; simp
  · by_cases h2 : i = w.heap.size + 1
    · subst h2; simp
    · simp [h1, h2, Ne.symm h1]
@[go_sem] theorem store_two1 (w : World) (x : Said) (o : Obj) : (storeS (.pointer (some ⟨w.heap.size, 0, none⟩)) (.agg (encS x))).run Tryz.prog ((w.alloc (.cells #[.string ⟨#[]⟩, .int .i64 0] 91)).alloc o) = .ok () ((w.alloc (.cells (encS x) 91)).alloc o) := by
  have h : Place ((w.alloc (.cells #[.string ⟨#[]⟩, .int .i64 0] 91)).alloc o) w.heap.size := ⟨([], 0), (SaidAt.new w ([], 0)).later ((Below.refl _ _).alloc (Nat.le_refl _) _)⟩
  rw [run_storeV h x, setRow_under]
@[go_sem] theorem store_two2 (w : World) (x : Said) (o : Obj) : (storeS (.pointer (some ⟨w.heap.size + 1, 0, none⟩)) (.agg (encS x))).run Tryz.prog ((w.alloc o).alloc (.cells #[.string ⟨#[]⟩, .int .i64 0] 91)) = .ok () ((w.alloc o).alloc (.cells (encS x) 91)) := by
  have := run_storeS_new (w.alloc o) #[.string ⟨#[]⟩, .int .i64 0] x rfl
  rw [World.size_alloc] at this
  exact this
end Go.Proofs.YtffkaphbgfdpaaaGreatDoor
end

section
/- What holds while write's walk stands at a node of two parts. -/
namespace Go.Proofs.YtffkaphbgfdpaaaGreatDoor
open Go.RowKit Go.Shelf Go.Deep T
set_option linter.unusedVariables false
set_option linter.unusedSimpArgs false
set_option maxRecDepth 100000

structure RestB (w W : World) (bt bb bv bw bp b0 o0 c : Nat) (ns : List Node) (g sc : Nat) (st : List Int) (fb : Nat) (r q : Nat) (n : Node) : Prop where
  row : W.heap[q]? = some (.cells (enc n) 37 (0, 0))
  env : Env w bt bb bv bw bp b0 o0 c ns g sc st fb
  place : Place W r
  ne : r ≠ q
  lo : w.heap.size ≤ r
  rl : r < w.heap.size + 2
  ql : q < w.heap.size + 2
  size : w.heap.size + 2 ≤ W.heap.size
  last : Below w.heap.size w W
abbrev HeldB (w W : World) (bt bb bv bw bp b0 o0 c : Nat) (ns : List Node) (g sc : Nat) (st : List Int) (fb : Nat) (r q : Nat) (n : Node) : Prop := W.cell? ⟨bp, 0, none⟩ = some (.func (.func 60) #[] #[.pointer (some ⟨bw, 0, none⟩), .pointer (some ⟨bb, 0, none⟩), .pointer (some ⟨bt, 0, none⟩)]) ∧ W.cell? ⟨bv, 0, none⟩ = some (.slice (some ⟨g, 0, none⟩) st.length sc) ∧ RestB w W bt bb bv bw bp b0 o0 c ns g sc st fb r q n
theorem heldB {w W : World} {bt bb bv bw bp b0 o0 c : Nat} {ns : List Node} {g sc : Nat} {st : List Int} {fb : Nat} {r q : Nat} {n : Node} (h : Env w bt bb bv bw bp b0 o0 c ns g sc st fb) (h5 : W.heap[q]? = some (.cells (enc n) 37 (0, 0))) (hP : Place W r) (hne : r ≠ q) (h1 : w.heap.size ≤ r) (h2 : r < w.heap.size + 2) (h3 : q < w.heap.size + 2) (h4 : w.heap.size + 2 ≤ W.heap.size) (hB : Below w.heap.size w W) : HeldB w W bt bb bv bw bp b0 o0 c ns g sc st fb r q n :=
  ⟨(h.later hB).p, (h.later hB).s, h5, h, hP, hne, h1, h2, h3, h4, hB⟩
theorem row_lt {W : World} {q : Nat} {o : Obj} (h : W.heap[q]? = some o) : q < W.heap.size := by
  rcases Nat.lt_or_ge q W.heap.size with k | k
  · exact k
  · rw [Array.getElem?_eq_none k] at h; cases h
theorem HeldB.later {w W W' : World} {bt bb bv bw bp b0 o0 c : Nat} {ns : List Node} {g sc : Nat} {st : List Int} {fb : Nat} {r q : Nat} {n : Node} (h : HeldB w W bt bb bv bw bp b0 o0 c ns g sc st fb r q n) (hB : Below W.heap.size W W') : HeldB w W' bt bb bv bw bp b0 o0 c ns g sc st fb r q n := by
  obtain ⟨a1, a2, ⟨a3, a5, a6, a7, a8, b1, b2, b3, a9⟩⟩ := h
  exact heldB a5 ((hB.block _ (row_lt a3)).trans a3) (a6.later hB) a7 a8 b1 b2 (Nat.le_trans b3 hB.size) (a9.trans (hB.mono a9.size))
theorem HeldB.one {w W : World} {bt bb bv bw bp b0 o0 c : Nat} {ns : List Node} {g sc : Nat} {st : List Int} {fb : Nat} {r q : Nat} {n : Node} {o1 : Obj} (h : HeldB w W bt bb bv bw bp b0 o0 c ns g sc st fb r q n) : HeldB w (W.alloc o1) bt bb bv bw bp b0 o0 c ns g sc st fb r q n :=
  h.later ((Below.refl _ _).alloc (Nat.le_refl _) _)
theorem HeldB.one_d {w W : World} {bt bb bv bw bp b0 o0 c : Nat} {ns : List Node} {g sc : Nat} {st : List Int} {fb : Nat} {r q : Nat} {n : Node} {o1 : Obj} (h : HeldB w W.drew bt bb bv bw bp b0 o0 c ns g sc st fb r q n) : HeldB w (W.alloc o1).drew bt bb bv bw bp b0 o0 c ns g sc st fb r q n := HeldB.one (W := W.drew) h
theorem HeldB.two {w W : World} {bt bb bv bw bp b0 o0 c : Nat} {ns : List Node} {g sc : Nat} {st : List Int} {fb : Nat} {r q : Nat} {n : Node} {o1 o2 : Obj} (h : HeldB w W bt bb bv bw bp b0 o0 c ns g sc st fb r q n) : HeldB w ((W.alloc o1).alloc o2) bt bb bv bw bp b0 o0 c ns g sc st fb r q n := h.one.one
theorem HeldB.set {w W : World} {bt bb bv bw bp b0 o0 c : Nat} {ns : List Node} {g sc : Nat} {st : List Int} {fb : Nat} {r q : Nat} {n : Node} {k : Nat} {y : Said} (h : HeldB w W bt bb bv bw bp b0 o0 c ns g sc st fb r q n) (hk : w.heap.size + 2 ≤ k) : HeldB w (W.setRow k (encS y)) bt bb bv bw bp b0 o0 c ns g sc st fb r q n := by
  obtain ⟨a1, a2, ⟨a3, a5, ⟨x, a6⟩, a7, a8, b1, b2, b3, a9⟩⟩ := h
  exact heldB a5 ((setRow_other W k q _ (by omega)).trans a3) ⟨x, a6.other (by omega)⟩ a7 a8 b1 b2 (by rw [show (W.setRow k (encS y)).heap.size = W.heap.size from by simp [World.setRow]]; exact b3) (below_setRow a9 (by omega) _)
theorem lastB {w W : World} {bt bb bv bw bp b0 o0 c : Nat} {ns : List Node} {g sc : Nat} {st : List Int} {fb : Nat} {r q : Nat} {n : Node} (h : HeldB w W bt bb bv bw bp b0 o0 c ns g sc st fb r q n) : Below w.heap.size w W := h.2.2.last
theorem sizB {w W : World} {bt bb bv bw bp b0 o0 c : Nat} {ns : List Node} {g sc : Nat} {st : List Int} {fb : Nat} {r q : Nat} {n : Node} (h : HeldB w W bt bb bv bw bp b0 o0 c ns g sc st fb r q n) : w.heap.size + 2 ≤ W.heap.size := h.2.2.size
theorem place_new (w : World) : Place (w.alloc (.cells #[.string ⟨#[]⟩, .int .i64 0] 91)) w.heap.size := ⟨_, SaidAt.new w ([], 0)⟩
theorem place_alloc (w : World) (o : Obj) (g : Nat) (h : Place w g) : Place (w.alloc o) g := h.later ((Below.refl _ _).alloc (Nat.le_refl _) _)
theorem place_two (w : World) (o : Obj) : Place ((w.alloc o).alloc (.cells #[.string ⟨#[]⟩, .int .i64 0] 91)) (w.heap.size + 1) := by
  have := place_new (w.alloc o)
  rwa [World.size_alloc] at this
theorem place_set (w : World) (g g2 : Nat) (y : Said) (h : Place w g) : Place (w.setRow g2 (encS y)) g := by
  by_cases e : g = g2
  · subst e; exact ⟨y, SaidAt.set h⟩
  · obtain ⟨x, h⟩ := h; exact ⟨x, h.other e⟩
abbrev zS : Obj := .cells #[.string ⟨#[]⟩, .int .i64 0] 91
theorem sz_drew (w : World) : w.drew.heap.size = w.heap.size := rfl
theorem place_new2 (w : World) (o : Obj) : Place ((w.alloc (.cells #[.string ⟨#[]⟩, .int .i64 0] 91)).alloc o) w.heap.size := place_alloc _ _ _ (place_new w)
theorem run_storeV_set {w : World} {g : Nat} (h : Place w g) (x y : Said) (k : Nat) : (storeS (.pointer (some ⟨g, 0, none⟩)) (.agg (encS x))).run Tryz.prog (w.setRow k (encS y)) = .ok () ((w.setRow k (encS y)).setRow g (encS x)) := run_storeV (place_set _ _ _ _ h) x
theorem pl2new {w W' : World} (hB : Below ((w.alloc (.cells #[.string ⟨#[]⟩, .int .i64 0] 91)).alloc (.cells #[.string ⟨#[]⟩, .int .i64 0] 91)).heap.size ((w.alloc (.cells #[.string ⟨#[]⟩, .int .i64 0] 91)).alloc (.cells #[.string ⟨#[]⟩, .int .i64 0] 91)) W') : Place W' w.heap.size ∧ Place W' (w.heap.size + 1) ∧ w.heap.size + 1 < W'.heap.size :=
  ⟨(place_new2 w _).later hB, (place_two w _).later hB, by have := hB.size; simp at this; omega⟩
theorem pl2 {W W' : World} {a b k : Nat} (hB : Below W.heap.size W W') (h : Place W a ∧ Place W b ∧ k < W.heap.size) : Place W' a ∧ Place W' b ∧ k < W'.heap.size := ⟨h.1.later hB, h.2.1.later hB, Nat.lt_of_lt_of_le h.2.2 hB.size⟩
theorem pl1one {W W' : World} {a : Nat} (hB : Below (W.alloc (.cells #[.string ⟨#[]⟩, .int .i64 0] 91)).heap.size (W.alloc (.cells #[.string ⟨#[]⟩, .int .i64 0] 91)) W') (h : Place W a) : Place W' a ∧ Place W' W.heap.size ∧ W.heap.size < W'.heap.size :=
  ⟨(place_alloc _ _ _ h).later hB, (place_new W).later hB, by have := hB.size; simp at this; omega⟩
theorem pl1new {W W' : World} (hB : Below (W.alloc (.cells #[.string ⟨#[]⟩, .int .i64 0] 91)).heap.size (W.alloc (.cells #[.string ⟨#[]⟩, .int .i64 0] 91)) W') : Place W' W.heap.size ∧ W.heap.size < W'.heap.size :=
  ⟨(place_new W).later hB, by have := hB.size; simp at this; omega⟩
theorem pl1 {W W' : World} {a k : Nat} (hB : Below W.heap.size W W') (h : Place W a ∧ k < W.heap.size) : Place W' a ∧ k < W'.heap.size := ⟨h.1.later hB, Nat.lt_of_lt_of_le h.2 hB.size⟩
theorem pl2new_d {w W' : World} (hB : Below ((w.alloc (.cells #[.string ⟨#[]⟩, .int .i64 0] 91)).alloc (.cells #[.string ⟨#[]⟩, .int .i64 0] 91)).drew.heap.size ((w.alloc (.cells #[.string ⟨#[]⟩, .int .i64 0] 91)).alloc (.cells #[.string ⟨#[]⟩, .int .i64 0] 91)).drew W') : Place W' w.heap.size ∧ Place W' (w.heap.size + 1) ∧ w.heap.size + 1 < W'.heap.size := pl2new (w := w.drew) hB
theorem pl1new_d {W W' : World} (hB : Below (W.alloc (.cells #[.string ⟨#[]⟩, .int .i64 0] 91)).drew.heap.size (W.alloc (.cells #[.string ⟨#[]⟩, .int .i64 0] 91)).drew W') : Place W' W.heap.size ∧ W.heap.size < W'.heap.size := pl1new (W := W.drew) hB
/-- Two places, made and filled. -/
theorem two_set {w : World} {g g2 : Nat} {x y : Said} (h1 : Place w g) (h2 : Place w g2) (hne : g ≠ g2) : SaidAt ((w.setRow g (encS x)).setRow g2 (encS y)) g x ∧ SaidAt ((w.setRow g (encS x)).setRow g2 (encS y)) g2 y :=
  ⟨(SaidAt.set h1).other hne, SaidAt.set (place_set _ _ _ _ h2)⟩
/-- What holds behind the two parts. -/
structure RestE (w W : World) (r q g1 g2 : Nat) (n : Node) (P Q : Said) : Prop where
  s1 : SaidAt W g1 P
  s2 : SaidAt W g2 Q
  row : W.heap[q]? = some (.cells (enc n) 37 (0, 0))
  place : Place W r
  n1 : g1 ≠ r
  n2 : g2 ≠ r
  ne : q ≠ r
  lo : w.heap.size ≤ r
  last : Below w.heap.size w W
abbrev HeldE (w W : World) (r q g1 g2 : Nat) (n : Node) (P Q : Said) : Prop := W.cell? ⟨g1, 0, none⟩ = some (.string (bs P.1)) ∧ W.cell? ⟨g1, 1, none⟩ = some (.int .i64 (P.2 : Int)) ∧ W.cell? ⟨g2, 0, none⟩ = some (.string (bs Q.1)) ∧ W.cell? ⟨g2, 1, none⟩ = some (.int .i64 (Q.2 : Int)) ∧ nodeAt W ⟨q, 0, none⟩ = some n ∧ (∀ (s : List UInt8) (k : Nat), (storeS (.pointer (some ⟨r, 0, none⟩)) (.agg #[.string (bs s), .int .i64 (k : Int)])).run Tryz.prog W = .ok () (W.setRow r (encS (s, k)))) ∧ RestE w W r q g1 g2 n P Q
theorem heldE {w W : World} {r q g1 g2 : Nat} {n : Node} {P Q : Said} (h : RestE w W r q g1 g2 n P Q) : HeldE w W r q g1 g2 n P Q :=
  ⟨h.s1.c0, h.s1.c1, h.s2.c0, h.s2.c1, nodeAt_row h.row, fun s k => run_storeS h.place s k, h⟩
theorem HeldE.later {w W W' : World} {r q g1 g2 : Nat} {n : Node} {P Q : Said} (h : HeldE w W r q g1 g2 n P Q) (hB : Below W.heap.size W W') : HeldE w W' r q g1 g2 n P Q := by
  obtain ⟨-, -, -, -, -, -, ⟨a1, a2, a3, a4, a5, a6, a7, a8, a9⟩⟩ := h
  exact heldE ⟨a1.later hB, a2.later hB, (hB.block _ (row_lt a3)).trans a3, a4.later hB, a5, a6, a7, a8, a9.trans (hB.mono a9.size)⟩
theorem HeldE.one {w W : World} {r q g1 g2 : Nat} {n : Node} {P Q : Said} {o : Obj} (h : HeldE w W r q g1 g2 n P Q) : HeldE w (W.alloc o) r q g1 g2 n P Q := h.later ((Below.refl _ _).alloc (Nat.le_refl _) _)
theorem HeldE.drew {w W : World} {r q g1 g2 : Nat} {n : Node} {P Q : Said} (h : HeldE w W r q g1 g2 n P Q) : HeldE w W.drew r q g1 g2 n P Q := h.later (Below.refl _ _).drew
theorem HeldE.one_d {w W : World} {r q g1 g2 : Nat} {n : Node} {P Q : Said} {o : Obj} (h : HeldE w W.drew r q g1 g2 n P Q) : HeldE w (W.alloc o).drew r q g1 g2 n P Q := HeldE.one (W := W.drew) h
theorem HeldE.set {w W : World} {r q g1 g2 : Nat} {n : Node} {P Q y : Said} (h : HeldE w W r q g1 g2 n P Q) : HeldE w (W.setRow r (encS y)) r q g1 g2 n P Q := by
  obtain ⟨-, -, -, -, -, -, ⟨a1, a2, a3, a4, a5, a6, a7, a8, a9⟩⟩ := h
  exact heldE ⟨a1.other a5, a2.other a6, (setRow_other W r q _ a7).trans a3, ⟨_, SaidAt.set a4⟩, a5, a6, a7, a8, below_setRow a9 a8 _⟩
end Go.Proofs.YtffkaphbgfdpaaaGreatDoor
end

section
/- Nodes of a filter: what their fields are. Plain. -/
namespace Go.Proofs.YtffkaphbgfdpaaaGreatDoor
open Go.RowKit Go.Shelf T
set_option linter.unusedVariables false
set_option linter.unusedSimpArgs false
set_option maxRecDepth 100000

set_option maxHeartbeats 4000000 in
theorem node_fine {n : Node} (hb : T.Node.bytes n) (hu : isU32 n.n) (ha : ∃ a, arityK n.kind = some a) (h1 : unusedB n.kind n = true) (h2 : fitsB n.kind n = true) : NodeOk2 n := by
  have hs := sixteen ha
  obtain ⟨k, op, nn, mm, sz, o, sd, ad, bt⟩ := n
  simp only at hs hu h1 h2
  obtain ⟨u0, u1⟩ := hu
  refine ⟨⟨?_, ?_, ⟨u0, u1⟩, ?_, ?_, hb⟩, ?_, ?_⟩
  all_goals
    rcases hs with rfl | rfl | rfl | rfl | rfl | rfl | rfl | rfl | rfl | rfl | rfl | rfl | rfl | rfl | rfl | rfl <;>
      simp [unusedB, onlyB, inR, netB, portB, bitsB, widthI, Node.zero, fitsB, isU32, signOk, arityK] at h1 h2 ⊢ <;> first | omega | (by_cases ho : o = 3 <;> simp [ho] at h2 <;> omega) | skip
theorem go_all : ∀ (ns : List Node) (st : List Int) (ps : List Part) (r : List Int × List Part), goT ns st ps = some r → ∀ n ∈ ns, (∃ a, arityK n.kind = some a) ∧ unusedB n.kind n = true ∧ fitsB n.kind n = true
  | [], st, ps, r, h, n, hn => by cases hn
  | m :: ns, st, ps, r, h, n, hn => by
    rw [goT_cons] at h
    by_cases hs : (T.stepT m st ps).1 ≠ 0
    · rw [if_pos hs] at h; cases h
    · rw [if_neg hs] at h
      rcases List.mem_cons.1 hn with rfl | hn
      · obtain ⟨a, st2, h1, -, h2, -, h3, -⟩ := stepT_ok (Decidable.not_not.1 hs)
        exact ⟨⟨a, h1⟩, h2, h3⟩
      · exact go_all ns _ _ r h n hn
/-- A list that Check takes: a tree, its nodes' fields such as they may be, and not many. -/
theorem filter_fine {ns : List Node} (hok : NodesOk ns) (h : (checkT ns).2 = 0) : ∃ t : Tr, t.Fit ∧ t.flat = ns ∧ ofT ns [] = some (t.starts 0) ∧ (∀ n ∈ ns, NodeOk2 n) ∧ ns.length ≤ 3000 := by
  obtain ⟨t, h1, h2, h3⟩ := tree_check h
  obtain ⟨hr, -, hw⟩ := check_ok h
  have hg := go_all ns [] [] _ (go_of_run ns 0 [] [] hr).1
  have hl := len_le_weight ns fun n hn => (hg n hn).1
  exact ⟨t, h1, h2, h3, fun n hn => node_fine (hok.bytes n hn) (hok.u32 n hn) (hg n hn).1 (hg n hn).2.1 (hg n hn).2.2, by omega⟩
end Go.Proofs.YtffkaphbgfdpaaaGreatDoor
end
