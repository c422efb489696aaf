/- The function values that package types lays into its table: what each of them answers of a node, as it is called in any later world. -/
import Derived.Test.YtedhlofmkehfkaaNode
import Derived.Shelf.Abstract
import Derived.Lib.Hide
namespace Go.Proofs.Ytedhlofmkehfkaa
open Go.RowKit Go.Shelf
set_option linter.unusedVariables false
set_option linter.unusedSimpArgs false

/-- In W the blocks from lo up to hi are as in w. -/
structure AgreeOn (lo hi : Nat) (w W : World) : Prop where
  size : hi ≤ W.heap.size
  block : ∀ b, lo ≤ b → b < hi → W.heap[b]? = w.heap[b]?
theorem AgreeOn.refl {lo hi : Nat} {w : World} (h : hi ≤ w.heap.size) : AgreeOn lo hi w w := ⟨h, fun _ _ _ => rfl⟩
theorem AgreeOn.trans {lo hi : Nat} {a b c : World} (h : AgreeOn lo hi a b) (k : AgreeOn lo hi b c) : AgreeOn lo hi a c := ⟨k.size, fun i h1 h2 => (k.block i h1 h2).trans (h.block i h1 h2)⟩
theorem AgreeOn.narrow {lo hi lo2 hi2 : Nat} {a b : World} (h : AgreeOn lo hi a b) (h1 : lo ≤ lo2) (h2 : hi2 ≤ hi) : AgreeOn lo2 hi2 a b := ⟨Nat.le_trans h2 h.size, fun i q1 q2 => h.block i (Nat.le_trans h1 q1) (Nat.lt_of_lt_of_le q2 h2)⟩
theorem AgreeOn.below {B lo hi : Nat} {a b : World} (h : Below B a b) (h2 : hi ≤ B) (h3 : hi ≤ a.heap.size) : AgreeOn lo hi a b := ⟨Nat.le_trans h3 h.size, fun i _ q2 => h.block i (Nat.lt_of_lt_of_le q2 h2)⟩
theorem AgreeOn.cell {lo hi : Nat} {a b : World} (h : AgreeOn lo hi a b) {g o : Nat} (h1 : lo ≤ g) (h2 : g < hi) : b.cell? ⟨g, o, none⟩ = a.cell? ⟨g, o, none⟩ := World.cell?_of_block (h.block g h1 h2)
/-- A function value that answers a bool of a node, in whatever later world; it makes memory at most. What it has caught lies in the blocks from lo up to hi. -/
def FnB (lo hi : Nat) (v : Value) (p : Node → Bool) (w : World) : Prop :=
  ∃ f cs, v = .func (.func f) #[] cs ∧ Enters Try.prog f ∧ ∀ W, AgreeOn lo hi w W → ∀ n, Calls Try.prog f (#[.agg (enc n)] ++ cs) W fun e W' => e = .returned (.bool (p n)) ∧ Below W.heap.size W W'
/-- Likewise: a whole number. -/
def FnI (lo hi : Nat) (v : Value) (p : Node → Int) (w : World) : Prop :=
  ∃ f cs, v = .func (.func f) #[] cs ∧ Enters Try.prog f ∧ ∀ W, AgreeOn lo hi w W → ∀ n, Calls Try.prog f (#[.agg (enc n)] ++ cs) W fun e W' => e = .returned (.int .i64 (p n)) ∧ Below W.heap.size W W'
/-- A function value that changes the node to which a pointer leads. -/
def FnU (v : Value) (g : Node → Node) : Prop :=
  ∃ f, v = .func (.func f) #[] #[] ∧ Enters Try.prog f ∧ ∀ W b n, W.heap[b]? = some (.cells (enc n) 40 (0, 0)) →
    Calls Try.prog f #[.pointer (some ⟨b, 0, none⟩)] W fun e W' => e = .returned (.tuple #[]) ∧ W' = W.setRow b (enc (g n))
theorem FnB.later {lo hi lo2 hi2 : Nat} {v : Value} {p : Node → Bool} {w W : World} (h : FnB lo hi v p w) (hb : AgreeOn lo hi w W) (h1 : lo2 ≤ lo) (h2 : hi ≤ hi2) : FnB lo2 hi2 v p W := by
  obtain ⟨f, cs, hv, he, hc⟩ := h
  exact ⟨f, cs, hv, he, fun W' hb' => hc W' (hb.trans (hb'.narrow h1 h2))⟩
theorem FnI.later {lo hi lo2 hi2 : Nat} {v : Value} {p : Node → Int} {w W : World} (h : FnI lo hi v p w) (hb : AgreeOn lo hi w W) (h1 : lo2 ≤ lo) (h2 : hi ≤ hi2) : FnI lo2 hi2 v p W := by
  obtain ⟨f, cs, hv, he, hc⟩ := h
  exact ⟨f, cs, hv, he, fun W' hb' => hc W' (hb.trans (hb'.narrow h1 h2))⟩

def inR (x lo hi : Int) : Bool := decide (lo ≤ x) && decide (x ≤ hi)
theorem in_any (x lo hi : Int) (w : World) : Calls Try.prog 47 #[.int .i64 x, .int .i64 lo, .int .i64 hi] w fun e w' => e = .returned (.bool (inR x lo hi)) ∧ w = w' := by
  by_cases h1 : lo ≤ x <;> by_cases h2 : x ≤ hi
  all_goals
    go_enter Try.func47, Try.ntmps47
    go_wp2
    all_goals first | (exfalso; omega) | (go_ret; exact ⟨by simp [inR, h1, h2], rfl⟩)


theorem used1 : FnU (.func (.func 39) #[] #[]) (fun n => n) := by
  refine ⟨_, rfl, enters_of Try.func39 (by kernel_rfl) rfl, fun W b n hb => ?_⟩
  have HB := Lib.hid hb
  clear hb
  go_enter Try.func39, Try.ntmps39
  go_wp2
  go_end0
  exact ⟨rfl, (setRow_self W b _ _ _ HB.out).symm⟩

theorem used2 : FnU (.func (.func 41) #[] #[]) (fun n => { n with n := 0 }) := by
  refine ⟨_, rfl, enters_of Try.func41 (by kernel_rfl) rfl, fun W b n hb => ?_⟩
  have c2 : W.cell? ⟨b, 2, none⟩ = some (.int .u32 n.n) := by rw [cell_of_row W b _ _ _ _ hb]; rfl
  have f2 : W.frozen? ⟨b, 2, none⟩ = false := frozen_of_row W b _ _ _ hb
  have HB := Lib.hid hb
  clear hb
  go_enter Try.func41, Try.ntmps41
  go_wp2
  go_end0
  refine ⟨rfl, ?_⟩
  have h0 := HB.out
  rw [setCell_eq_setRow _ b 2 _ _ _ _ h0]
  rfl

theorem used3 : FnU (.func (.func 45) #[] #[]) (fun n => { n with of := 0, size := 0 }) := by
  refine ⟨_, rfl, enters_of Try.func45 (by kernel_rfl) rfl, fun W b n hb => ?_⟩
  have c5 : W.cell? ⟨b, 5, none⟩ = some (.int .i64 n.of) := by rw [cell_of_row W b _ _ _ _ hb]; rfl
  have f5 : W.frozen? ⟨b, 5, none⟩ = false := frozen_of_row W b _ _ _ hb
  have c4 : W.cell? ⟨b, 4, none⟩ = some (.int .i64 n.size) := by rw [cell_of_row W b _ _ _ _ hb]; rfl
  have f4 : W.frozen? ⟨b, 4, none⟩ = false := frozen_of_row W b _ _ _ hb
  have HB := Lib.hid hb
  clear hb
  go_enter Try.func45, Try.ntmps45
  go_wp2
  go_end0
  refine ⟨rfl, ?_⟩
  have h0 := HB.out
  rw [setCell_eq_setRow _ b 5 _ _ _ _ h0]
  rw [setCell_eq_setRow _ b 4 _ _ _ _ (setRow_heap W b _ _ _ _ h0)]
  rw [setRow_setRow]
  rfl

theorem used6 : FnU (.func (.func 49) #[] #[]) (fun n => { n with op := 0 }) := by
  refine ⟨_, rfl, enters_of Try.func49 (by kernel_rfl) rfl, fun W b n hb => ?_⟩
  have c1 : W.cell? ⟨b, 1, none⟩ = some (.int .i64 n.op) := by rw [cell_of_row W b _ _ _ _ hb]; rfl
  have f1 : W.frozen? ⟨b, 1, none⟩ = false := frozen_of_row W b _ _ _ hb
  have HB := Lib.hid hb
  clear hb
  go_enter Try.func49, Try.ntmps49
  go_wp2
  go_end0
  refine ⟨rfl, ?_⟩
  have h0 := HB.out
  rw [setCell_eq_setRow _ b 1 _ _ _ _ h0]
  rfl

theorem used8 : FnU (.func (.func 51) #[] #[]) (fun n => { n with op := 0 }) := by
  refine ⟨_, rfl, enters_of Try.func51 (by kernel_rfl) rfl, fun W b n hb => ?_⟩
  have c1 : W.cell? ⟨b, 1, none⟩ = some (.int .i64 n.op) := by rw [cell_of_row W b _ _ _ _ hb]; rfl
  have f1 : W.frozen? ⟨b, 1, none⟩ = false := frozen_of_row W b _ _ _ hb
  have HB := Lib.hid hb
  clear hb
  go_enter Try.func51, Try.ntmps51
  go_wp2
  go_end0
  refine ⟨rfl, ?_⟩
  have h0 := HB.out
  rw [setCell_eq_setRow _ b 1 _ _ _ _ h0]
  rfl

theorem used10 : FnU (.func (.func 53) #[] #[]) (fun n => { n with side := 0 }) := by
  refine ⟨_, rfl, enters_of Try.func53 (by kernel_rfl) rfl, fun W b n hb => ?_⟩
  have c6 : W.cell? ⟨b, 6, none⟩ = some (.int .i64 n.side) := by rw [cell_of_row W b _ _ _ _ hb]; rfl
  have f6 : W.frozen? ⟨b, 6, none⟩ = false := frozen_of_row W b _ _ _ hb
  have HB := Lib.hid hb
  clear hb
  go_enter Try.func53, Try.ntmps53
  go_wp2
  go_end0
  refine ⟨rfl, ?_⟩
  have h0 := HB.out
  rw [setCell_eq_setRow _ b 6 _ _ _ _ h0]
  rfl

theorem used12 : FnU (.func (.func 55) #[] #[]) (fun n => { n with of := 0 }) := by
  refine ⟨_, rfl, enters_of Try.func55 (by kernel_rfl) rfl, fun W b n hb => ?_⟩
  have c5 : W.cell? ⟨b, 5, none⟩ = some (.int .i64 n.of) := by rw [cell_of_row W b _ _ _ _ hb]; rfl
  have f5 : W.frozen? ⟨b, 5, none⟩ = false := frozen_of_row W b _ _ _ hb
  have HB := Lib.hid hb
  clear hb
  go_enter Try.func55, Try.ntmps55
  go_wp2
  go_end0
  refine ⟨rfl, ?_⟩
  have h0 := HB.out
  rw [setCell_eq_setRow _ b 5 _ _ _ _ h0]
  rfl

theorem used14 : FnU (.func (.func 57) #[] #[]) (fun n => { n with n := 0 }) := by
  refine ⟨_, rfl, enters_of Try.func57 (by kernel_rfl) rfl, fun W b n hb => ?_⟩
  have c2 : W.cell? ⟨b, 2, none⟩ = some (.int .u32 n.n) := by rw [cell_of_row W b _ _ _ _ hb]; rfl
  have f2 : W.frozen? ⟨b, 2, none⟩ = false := frozen_of_row W b _ _ _ hb
  have HB := Lib.hid hb
  clear hb
  go_enter Try.func57, Try.ntmps57
  go_wp2
  go_end0
  refine ⟨rfl, ?_⟩
  have h0 := HB.out
  rw [setCell_eq_setRow _ b 2 _ _ _ _ h0]
  rfl

theorem used16 : FnU (.func (.func 59) #[] #[]) (fun n => { n with of := 0, n := 0 }) := by
  refine ⟨_, rfl, enters_of Try.func59 (by kernel_rfl) rfl, fun W b n hb => ?_⟩
  have c5 : W.cell? ⟨b, 5, none⟩ = some (.int .i64 n.of) := by rw [cell_of_row W b _ _ _ _ hb]; rfl
  have f5 : W.frozen? ⟨b, 5, none⟩ = false := frozen_of_row W b _ _ _ hb
  have c2 : W.cell? ⟨b, 2, none⟩ = some (.int .u32 n.n) := by rw [cell_of_row W b _ _ _ _ hb]; rfl
  have f2 : W.frozen? ⟨b, 2, none⟩ = false := frozen_of_row W b _ _ _ hb
  have HB := Lib.hid hb
  clear hb
  go_enter Try.func59, Try.ntmps59
  go_wp2
  go_end0
  refine ⟨rfl, ?_⟩
  have h0 := HB.out
  rw [setCell_eq_setRow _ b 5 _ _ _ _ h0]
  rw [setCell_eq_setRow _ b 2 _ _ _ _ (setRow_heap W b _ _ _ _ h0)]
  rw [setRow_setRow]
  rfl

theorem used21 : FnU (.func (.func 67) #[] #[]) (fun n => { n with of := 0, side := 0, n := 0, m := 0 }) := by
  refine ⟨_, rfl, enters_of Try.func67 (by kernel_rfl) rfl, fun W b n hb => ?_⟩
  have c5 : W.cell? ⟨b, 5, none⟩ = some (.int .i64 n.of) := by rw [cell_of_row W b _ _ _ _ hb]; rfl
  have f5 : W.frozen? ⟨b, 5, none⟩ = false := frozen_of_row W b _ _ _ hb
  have c6 : W.cell? ⟨b, 6, none⟩ = some (.int .i64 n.side) := by rw [cell_of_row W b _ _ _ _ hb]; rfl
  have f6 : W.frozen? ⟨b, 6, none⟩ = false := frozen_of_row W b _ _ _ hb
  have c2 : W.cell? ⟨b, 2, none⟩ = some (.int .u32 n.n) := by rw [cell_of_row W b _ _ _ _ hb]; rfl
  have f2 : W.frozen? ⟨b, 2, none⟩ = false := frozen_of_row W b _ _ _ hb
  have c3 : W.cell? ⟨b, 3, none⟩ = some (.int .u32 n.m) := by rw [cell_of_row W b _ _ _ _ hb]; rfl
  have f3 : W.frozen? ⟨b, 3, none⟩ = false := frozen_of_row W b _ _ _ hb
  have HB := Lib.hid hb
  clear hb
  go_enter Try.func67, Try.ntmps67
  go_wp2
  go_end0
  refine ⟨rfl, ?_⟩
  have h0 := HB.out
  rw [setCell_eq_setRow _ b 5 _ _ _ _ h0]
  rw [setCell_eq_setRow _ b 6 _ _ _ _ (setRow_heap W b _ _ _ _ h0)]
  rw [setRow_setRow]
  rw [setCell_eq_setRow _ b 2 _ _ _ _ (setRow_heap W b _ _ _ _ h0)]
  rw [setRow_setRow]
  rw [setCell_eq_setRow _ b 3 _ _ _ _ (setRow_heap W b _ _ _ _ h0)]
  rw [setRow_setRow]
  rfl

theorem pred4 (lo hi : Nat) (w : World) : FnB lo hi (.func (.func 46) #[] #[]) (fun n => inR n.of 1 12) w := by
  refine ⟨_, _, rfl, enters_of Try.func46 (by kernel_rfl) rfl, fun W hW n => ?_⟩
  go_enter Try.func46, Try.ntmps46
  go_wp2_with (go_at_call 47; refine (in_any _ _ _ _).mono ?_; rintro e w2 ⟨rfl, rfl⟩)
  go_ret
  exact ⟨rfl, (Below.refl _ _).alloc (Nat.le_refl _) _⟩

theorem pred7 (lo hi : Nat) (w : World) : FnB lo hi (.func (.func 50) #[] #[]) (fun n => inR n.op 1 10) w := by
  refine ⟨_, _, rfl, enters_of Try.func50 (by kernel_rfl) rfl, fun W hW n => ?_⟩
  go_enter Try.func50, Try.ntmps50
  go_wp2_with (go_at_call 47; refine (in_any _ _ _ _).mono ?_; rintro e w2 ⟨rfl, rfl⟩)
  go_ret
  exact ⟨rfl, (Below.refl _ _).alloc (Nat.le_refl _) _⟩

theorem pred9 (lo hi : Nat) (w : World) : FnB lo hi (.func (.func 52) #[] #[]) (fun n => inR n.op 1 6) w := by
  refine ⟨_, _, rfl, enters_of Try.func52 (by kernel_rfl) rfl, fun W hW n => ?_⟩
  go_enter Try.func52, Try.ntmps52
  go_wp2_with (go_at_call 47; refine (in_any _ _ _ _).mono ?_; rintro e w2 ⟨rfl, rfl⟩)
  go_ret
  exact ⟨rfl, (Below.refl _ _).alloc (Nat.le_refl _) _⟩

theorem pred11 (lo hi : Nat) (w : World) : FnB lo hi (.func (.func 54) #[] #[]) (fun n => inR n.side 1 2) w := by
  refine ⟨_, _, rfl, enters_of Try.func54 (by kernel_rfl) rfl, fun W hW n => ?_⟩
  go_enter Try.func54, Try.ntmps54
  go_wp2_with (go_at_call 47; refine (in_any _ _ _ _).mono ?_; rintro e w2 ⟨rfl, rfl⟩)
  go_ret
  exact ⟨rfl, (Below.refl _ _).alloc (Nat.le_refl _) _⟩

theorem pred13 (lo hi : Nat) (w : World) : FnB lo hi (.func (.func 56) #[] #[]) (fun n => inR n.of 2 13) w := by
  refine ⟨_, _, rfl, enters_of Try.func56 (by kernel_rfl) rfl, fun W hW n => ?_⟩
  go_enter Try.func56, Try.ntmps56
  go_wp2_with (go_at_call 47; refine (in_any _ _ _ _).mono ?_; rintro e w2 ⟨rfl, rfl⟩)
  go_ret
  exact ⟨rfl, (Below.refl _ _).alloc (Nat.le_refl _) _⟩

theorem pred17 (lo hi : Nat) (w : World) : FnB lo hi (.func (.func 60) #[] #[]) (fun n => inR n.of 2 3) w := by
  refine ⟨_, _, rfl, enters_of Try.func60 (by kernel_rfl) rfl, fun W hW n => ?_⟩
  go_enter Try.func60, Try.ntmps60
  go_wp2_with (go_at_call 47; refine (in_any _ _ _ _).mono ?_; rintro e w2 ⟨rfl, rfl⟩)
  go_ret
  exact ⟨rfl, (Below.refl _ _).alloc (Nat.le_refl _) _⟩

theorem always_any (lo hi : Nat) (w : World) : FnB lo hi (.func (.func 42) #[] #[]) (fun _ => true) w := by
  refine ⟨_, _, rfl, enters_of Try.func42 (by kernel_rfl) rfl, fun W hW n => ?_⟩
  go_enter Try.func42, Try.ntmps42
  go_wp2
  go_ret
  exact ⟨rfl, (Below.refl _ _).alloc (Nat.le_refl _) _⟩

/-! ### The ones that catch variables -/
theorem wclo_any (lo hi b : Nat) (x : Int) (w : World) (h1 : lo ≤ b) (h2 : b < hi) (hc : w.cell? ⟨b, 0, none⟩ = some (.int .i64 x)) : FnI lo hi (.func (.func 80) #[] #[.pointer (some ⟨b, 0, none⟩)]) (fun _ => x) w := by
  refine ⟨_, _, rfl, enters_of Try.func80 (by kernel_rfl) rfl, fun W hW n => ?_⟩
  have hc' : W.cell? ⟨b, 0, none⟩ = some (.int .i64 x) := (hW.cell h1 h2).trans hc
  have hb' : b < W.heap.size := World.block_lt_of_cell? W _ hc'
  clear hc hW h1 h2
  go_enter Try.func80, Try.ntmps80
  go_wp2
  go_ret
  exact ⟨rfl, (Below.refl _ _).alloc (Nat.le_refl _) _⟩
theorem w_any (x : Int) (w : World) : Calls Try.prog 43 #[.int .i64 x] w fun e w' => ∃ v, e = .returned v ∧ FnI w.heap.size w'.heap.size v (fun _ => x) w' ∧ Below w.heap.size w w' := by
  go_enter Try.func43, Try.ntmps43
  go_wp2
  go_ret
  exact ⟨_, rfl, wclo_any _ _ _ x _ (Nat.le_refl _) (by simp) (World.cell?_alloc_new w _ _ 0), (Below.refl _ _).alloc (Nat.le_refl _) _⟩
def byI (four six : Int) (n : Node) : Int := if n.of = 3 then six else four
theorem byclo_any (lo hi b c : Nat) (x y : Int) (w : World) (h1 : lo ≤ b) (h2 : b < hi) (h3 : lo ≤ c) (h4 : c < hi) (hc : w.cell? ⟨b, 0, none⟩ = some (.int .i64 y)) (hd : w.cell? ⟨c, 0, none⟩ = some (.int .i64 x)) :
    FnI lo hi (.func (.func 82) #[] #[.pointer (some ⟨b, 0, none⟩), .pointer (some ⟨c, 0, none⟩)]) (byI x y) w := by
  refine ⟨_, _, rfl, enters_of Try.func82 (by kernel_rfl) rfl, fun W hW n => ?_⟩
  have hc' : W.cell? ⟨b, 0, none⟩ = some (.int .i64 y) := (hW.cell h1 h2).trans hc
  have hb' : b < W.heap.size := World.block_lt_of_cell? W _ hc'
  have hd' : W.cell? ⟨c, 0, none⟩ = some (.int .i64 x) := (hW.cell h3 h4).trans hd
  have he' : c < W.heap.size := World.block_lt_of_cell? W _ hd'
  clear hc hd hW h1 h2 h3 h4
  by_cases h : n.of = 3
  all_goals
    go_enter Try.func82, Try.ntmps82
    go_wp2
    go_ret
    exact ⟨by simp [byI, h], (Below.refl _ _).alloc (Nat.le_refl _) _⟩
theorem by_any (x y : Int) (w : World) : Calls Try.prog 64 #[.int .i64 x, .int .i64 y] w fun e w' => ∃ v, e = .returned v ∧ FnI w.heap.size w'.heap.size v (byI x y) w' ∧ Below w.heap.size w w' := by
  go_enter Try.func64, Try.ntmps64
  go_wp2
  go_ret
  exact ⟨_, rfl, byclo_any _ _ _ _ x y _ (by first | omega | (simp; done) | (simp; omega)) (by first | omega | (simp; done) | (simp; omega)) (by first | omega | (simp; done) | (simp; omega)) (by first | omega | (simp; done) | (simp; omega)) (by simp [go_sem]) (by simp [go_sem]), ((Below.refl _ _).alloc (Nat.le_refl _) _).alloc (by simp) _⟩
/-- 'only': is a node nothing but its kind, when g has taken out what it uses? -/
def onlyB (g : Node → Node) (n : Node) : Bool := decide (g n = { Node.zero with kind := n.kind })
theorem onlyclo_any (lo hi b : Nat) (u : Value) (g : Node → Node) (w : World) (hu : FnU u g) (h1 : lo ≤ b) (h2 : b < hi) (hc : w.cell? ⟨b, 0, none⟩ = some u) :
    FnB lo hi (.func (.func 79) #[] #[.pointer (some ⟨b, 0, none⟩)]) (onlyB g) w := by
  refine ⟨_, _, rfl, enters_of Try.func79 (by kernel_rfl) rfl, fun W hW n => ?_⟩
  obtain ⟨f, rfl, he, hcall⟩ := hu
  have hc' : W.cell? ⟨b, 0, none⟩ = some (.func (.func f) #[] #[]) := (hW.cell h1 h2).trans hc
  have hb' : b < W.heap.size := World.block_lt_of_cell? W _ hc'
  have HC := hcall (W.alloc (.cells (enc n) 40)) W.heap.size n (heap_alloc_new W _)
  rw [setRow_alloc_new] at HC
  clear hc hW hcall h1 h2
  unfold Enters at he
  go_enter Try.func79, Try.ntmps79
  go_wp2_with (go_at_fn f; refine HC.mono ?_; rintro e w2 ⟨rfl, rfl⟩)
  go_ret
  exact ⟨rfl, (Below.refl _ _).alloc (Nat.le_refl _) _⟩
theorem only_any (u : Value) (g : Node → Node) (w : World) (hu : FnU u g) : Calls Try.prog 40 #[u] w fun e w' => ∃ v, e = .returned v ∧ FnB w.heap.size w'.heap.size v (onlyB g) w' ∧ Below w.heap.size w w' := by
  have hu' := hu
  obtain ⟨f, rfl, he, hcall⟩ := hu
  clear he hcall
  go_enter Try.func40, Try.ntmps40
  go_wp2
  go_ret
  exact ⟨_, rfl, onlyclo_any _ _ _ _ g _ hu' (Nat.le_refl _) (by simp) (World.cell?_alloc_new w _ _ 0), (Below.refl _ _).alloc (Nat.le_refl _) _⟩
theorem alsoclo_any (lo hi b c : Nat) (u v : Value) (p q : Node → Bool) (w : World) (hu : FnB lo hi u p w) (hv : FnB lo hi v q w) (h1 : lo ≤ b) (h2 : b < hi) (h3 : lo ≤ c) (h4 : c < hi) (hc : w.cell? ⟨b, 0, none⟩ = some u) (hd : w.cell? ⟨c, 0, none⟩ = some v) :
    FnB lo hi (.func (.func 81) #[] #[.pointer (some ⟨b, 0, none⟩), .pointer (some ⟨c, 0, none⟩)]) (fun n => p n && q n) w := by
  refine ⟨_, _, rfl, enters_of Try.func81 (by kernel_rfl) rfl, fun W hW n => ?_⟩
  have hu' := hu.later hW (Nat.le_refl _) (Nat.le_refl _)
  have hv' := hv.later hW (Nat.le_refl _) (Nat.le_refl _)
  clear hu hv
  obtain ⟨f, cs, rfl, he, hcall⟩ := hu'
  obtain ⟨f2, cs2, rfl, he2, hcall2⟩ := hv'
  have hc' : W.cell? ⟨b, 0, none⟩ = some (.func (.func f) #[] cs) := (hW.cell h1 h2).trans hc
  have hb' : b < W.heap.size := World.block_lt_of_cell? W _ hc'
  have hd' : W.cell? ⟨c, 0, none⟩ = some (.func (.func f2) #[] cs2) := (hW.cell h3 h4).trans hd
  have hb2' : c < W.heap.size := World.block_lt_of_cell? W _ hd'
  have hz := hW.size
  have B1 : Below W.heap.size W (W.alloc (.cells (enc n) 40)) := (Below.refl _ _).alloc (Nat.le_refl _) _
  have HC := hcall _ (AgreeOn.below B1 hz hz) n
  have HC2 := Lib.hid hcall2
  have hn : nodeAt (W.alloc (.cells (enc n) 40)) ⟨W.heap.size, 0, none⟩ = some n := nodeAt_new W n _
  clear hc hd hW hcall hcall2
  unfold Enters at he he2
  cases hp : p n <;> rw [hp] at HC
  · go_enter Try.func81, Try.ntmps81
    go_wp2_with (go_at_fn f; refine HC.mono ?_; rintro e w2 ⟨rfl, hB⟩)
    go_ret
    exact ⟨by simp [hp], B1.trans (hB.mono (by simp))⟩
  · go_enter Try.func81, Try.ntmps81
    go_wp2_with fail
    refine HC.mono ?_
    rintro e w2 ⟨rfl, hB⟩
    have B2 := B1.trans (hB.mono (by simp))
    have c2 : w2.cell? ⟨c, 0, none⟩ = some (.func (.func f2) #[] cs2) := (B2.cell (p := ⟨c, 0, none⟩) hb2').trans hd'
    have n2 : nodeAt w2 ⟨W.heap.size, 0, none⟩ = some n := nodeAt_later hB hn
    go_wp2_with fail
    refine (HC2.out _ (AgreeOn.below B2 hz hz) n).mono ?_
    rintro e w3 ⟨rfl, hB3⟩
    go_wp2_with fail
    go_ret
    exact ⟨by simp [hp], B2.trans (hB3.mono B2.size)⟩
theorem also_any (lo : Nat) (u v : Value) (p q : Node → Bool) (w : World) (hlo : lo ≤ w.heap.size) (hu : FnB lo w.heap.size u p w) (hv : FnB lo w.heap.size v q w) : Calls Try.prog 44 #[u, v] w fun e w' => ∃ r, e = .returned r ∧ FnB lo w'.heap.size r (fun n => p n && q n) w' ∧ Below w.heap.size w w' := by
  have B : Below w.heap.size w ((w.alloc (.cells #[u] 62)).alloc (.cells #[v] 62)) := ((Below.refl _ _).alloc (Nat.le_refl _) _).alloc (by simp) _
  have A : AgreeOn lo w.heap.size w ((w.alloc (.cells #[u] 62)).alloc (.cells #[v] 62)) := AgreeOn.below B (Nat.le_refl _) (Nat.le_refl _)
  have hu' := hu.later A (Nat.le_refl _) B.size
  have hv' := hv.later A (Nat.le_refl _) B.size
  obtain ⟨f, cs, rfl, he, hcall⟩ := hu
  obtain ⟨f2, cs2, rfl, he2, hcall2⟩ := hv
  clear he he2 hcall hcall2
  have HU := Lib.hid hu'
  have HV := Lib.hid hv'
  have HB := Lib.hid B
  clear hu' hv' B A
  go_enter Try.func44, Try.ntmps44
  go_wp2
  go_ret
  exact ⟨_, rfl, alsoclo_any _ _ _ _ _ _ p q _ HU.out HV.out (by first | omega | (simp; done) | (simp; omega)) (by first | omega | (simp; done) | (simp; omega)) (by first | omega | (simp; done) | (simp; omega)) (by first | omega | (simp; done) | (simp; omega)) (by simp [go_sem]) (by simp [go_sem]), HB.out⟩
end Go.Proofs.Ytedhlofmkehfkaa
