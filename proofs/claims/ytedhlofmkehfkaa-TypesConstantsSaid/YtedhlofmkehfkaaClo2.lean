/- The rest of the function values of package types: those with tests of their own. -/
import Derived.Test.YtedhlofmkehfkaaClo
import Derived.BigQuiet
import Derived.Deep.QuietTactic
import Derived.Deep.RegionHeld3
namespace Go.Proofs.Ytedhlofmkehfkaa
open Go.RowKit Go.Shelf
set_option linter.unusedVariables false
set_option linter.unusedSimpArgs false

theorem size_any (lo hi : Nat) (w : World) : FnB lo hi (.func (.func 48) #[] #[]) (fun n => decide (n.size = 1) || decide (n.size = 2) || decide (n.size = 4)) w := by
  refine ⟨_, _, rfl, enters_of Try.func48 (by kernel_rfl) rfl, fun W hW n => ?_⟩
  by_cases h1 : n.size = 1
  case pos =>
    go_enter Try.func48, Try.ntmps48
    go_wp2
    go_ret
    exact ⟨by simp [h1], (Below.refl _ _).alloc (Nat.le_refl _) _⟩
  by_cases h2 : n.size = 2
  case pos =>
    go_enter Try.func48, Try.ntmps48
    go_wp2
    go_ret
    exact ⟨by simp [h2], (Below.refl _ _).alloc (Nat.le_refl _) _⟩
  by_cases h4 : n.size = 4
  all_goals
    go_enter Try.func48, Try.ntmps48
    go_wp2
    go_ret
    exact ⟨by simp [h1, h2, h4], (Below.refl _ _).alloc (Nat.le_refl _) _⟩
theorem proto_any (lo hi : Nat) (w : World) : FnB lo hi (.func (.func 58) #[] #[]) (fun n => decide (n.n ≤ 65535)) w := by
  refine ⟨_, _, rfl, enters_of Try.func58 (by kernel_rfl) rfl, fun W hW n => ?_⟩
  go_enter Try.func58, Try.ntmps58
  go_wp2
  go_ret
  exact ⟨rfl, (Below.refl _ _).alloc (Nat.le_refl _) _⟩
theorem next_any (lo hi : Nat) (w : World) : FnB lo hi (.func (.func 61) #[] #[]) (fun n => decide (n.n ≤ 255)) w := by
  refine ⟨_, _, rfl, enters_of Try.func61 (by kernel_rfl) rfl, fun W hW n => ?_⟩
  go_enter Try.func61, Try.ntmps61
  go_wp2
  go_ret
  exact ⟨rfl, (Below.refl _ _).alloc (Nat.le_refl _) _⟩
theorem portfit_any (lo hi : Nat) (w : World) : FnB lo hi (.func (.func 69) #[] #[]) (fun n => decide (n.m ≤ 65535) && decide (n.n ≤ n.m)) w := by
  refine ⟨_, _, rfl, enters_of Try.func69 (by kernel_rfl) rfl, fun W hW n => ?_⟩
  by_cases h1 : n.m ≤ 65535 <;> by_cases h2 : n.n ≤ n.m
  all_goals
    go_enter Try.func69, Try.ntmps69
    go_wp2
    all_goals first | (exfalso; omega) | (go_ret; exact ⟨by simp [h1, h2], (Below.refl _ _).alloc (Nat.le_refl _) _⟩)
def portB (n : Node) : Bool := (decide (n.of = 0) || decide (n.of = 4) || decide (n.of = 5)) && inR n.side 0 2
theorem port_any (lo hi : Nat) (w : World) : FnB lo hi (.func (.func 68) #[] #[]) portB w := by
  refine ⟨_, _, rfl, enters_of Try.func68 (by kernel_rfl) rfl, fun W hW n => ?_⟩
  by_cases h1 : n.of = 0
  case pos =>
    go_enter Try.func68, Try.ntmps68
    go_wp2_with (go_at_call 47; refine (in_any _ _ _ _).mono ?_; rintro e w2 ⟨rfl, rfl⟩)
    go_ret
    exact ⟨by simp [portB, h1], (Below.refl _ _).alloc (Nat.le_refl _) _⟩
  by_cases h2 : n.of = 4
  case pos =>
    go_enter Try.func68, Try.ntmps68
    go_wp2_with (go_at_call 47; refine (in_any _ _ _ _).mono ?_; rintro e w2 ⟨rfl, rfl⟩)
    go_ret
    exact ⟨by simp [portB, h2], (Below.refl _ _).alloc (Nat.le_refl _) _⟩
  by_cases h4 : n.of = 5
  all_goals
    go_enter Try.func68, Try.ntmps68
    go_wp2_with (go_at_call 47; refine (in_any _ _ _ _).mono ?_; rintro e w2 ⟨rfl, rfl⟩)
    go_ret
    exact ⟨by simp [portB, h1, h2, h4], (Below.refl _ _).alloc (Nat.le_refl _) _⟩
/-- How many bytes a node's addresses have. -/
def widthI (n : Node) : Int := if n.of = 3 then 16 else 4
theorem width_any (n : Node) (w : World) : Calls Try.prog 83 #[.agg (enc n)] w fun e w' => e = .returned (.int .i64 (widthI n)) ∧ w.alloc (.cells (enc n) 40) = w' := by
  by_cases h : n.of = 3
  all_goals
    go_enter Try.func83, Try.ntmps83
    go_wp2
    go_ret
    exact ⟨by simp [widthI, h], rfl⟩
theorem widthI_cases (n : Node) : widthI n = 16 ∨ widthI n = 4 := by unfold widthI; split <;> simp
/-- What lies in a box of a node, in whatever later world. -/
structure BoxIn (W0 : World) (b : Nat) (n : Node) (w : World) : Prop where
  row : w.heap[b]? = some (.cells (enc n) 40 (0, 0))
  old : b < W0.heap.size + 1
  below : Below W0.heap.size W0 w
theorem width_below (n : Node) (w : World) : Calls Try.prog 83 #[.agg (enc n)] w fun e w' => e = .returned (.int .i64 (widthI n)) ∧ Below w.heap.size w w' :=
  (width_any n w).mono fun e w' ⟨he, hw⟩ => ⟨he, hw ▸ (Below.refl _ _).alloc (Nat.le_refl _) _⟩
def bitsB (n : Node) : Bool := inR n.bits 0 (8 * widthI n)
theorem held_later {b : Nat} {n : Node} {W w w' : World} (hb : Below w.heap.size w w') (h : w.cell? ⟨b, 23, none⟩ = some (.int .i64 n.bits) ∧ nodeAt w ⟨b, 0, none⟩ = some n ∧ Below W.heap.size W w) :
    w'.cell? ⟨b, 23, none⟩ = some (.int .i64 n.bits) ∧ nodeAt w' ⟨b, 0, none⟩ = some n ∧ Below W.heap.size W w' :=
  ⟨(hb.cell (World.block_lt_of_cell? w _ h.1)).trans h.1, nodeAt_later hb h.2.1, h.2.2.trans (hb.mono h.2.2.size)⟩
set_option maxHeartbeats 1000000 in
theorem bits_any (lo hi : Nat) (w : World) : FnB lo hi (.func (.func 66) #[] #[]) bitsB w := by
  refine ⟨_, _, rfl, enters_of Try.func66 (by kernel_rfl) rfl, fun W hW n => ?_⟩
  have hw := widthI_cases n
  have hlo : 4 ≤ widthI n := by omega
  have hhi : widthI n ≤ 16 := by omega
  clear hw hW
  go_enter Try.func66, Try.ntmps66
  go_wp2
  have h1 : (W.alloc (.cells (enc n) 40)).cell? ⟨W.heap.size, 23, none⟩ = some (.int .i64 n.bits) := World.cell?_alloc_new W _ _ 23
  have h2 := nodeAt_new W n 40
  have h3 : Below W.heap.size W (W.alloc (.cells (enc n) 40)) := (Below.refl _ _).alloc (Nat.le_refl _) _
  obtain ⟨b, hbb⟩ : ∃ b, W.heap.size = b := ⟨_, rfl⟩
  rw [hbb] at h1 h2 ⊢
  generalize W.alloc (.cells (enc n) 40) = V at h1 h2 h3 ⊢
  go_region_held3 (fun w' => w'.cell? ⟨b, 23, none⟩ = some (.int .i64 n.bits) ∧ nodeAt w' ⟨b, 0, none⟩ = some n ∧ Below W.heap.size W w') (first | exact ⟨h1, h2, h3.drew⟩ | exact held_later (by assumption) (by assumption) | assumption)
    (first | (go_at_call 83; refine (width_below _ _).mono ?_; rintro e w2 ⟨rfl, hB2⟩) | (go_at_call 47; refine (in_any _ _ _ _).mono ?_; rintro e w2 ⟨rfl, rfl⟩))
  rename_i hH
  have hBB := hH.2.2
  clear hH
  go_wp2
  go_ret
  exact ⟨by rw [IntWalk.i64_in _ (by omega)]; rfl, hBB⟩
/-- 'net': an address's kind, its side and its bytes behind the fourth. -/
def A16.rest0 (a : A16) : Bool := decide (a.b4 = 0) && decide (a.b5 = 0) && decide (a.b6 = 0) && decide (a.b7 = 0) && decide (a.b8 = 0) && decide (a.b9 = 0) && decide (a.b10 = 0) && decide (a.b11 = 0) && decide (a.b12 = 0) && decide (a.b13 = 0) && decide (a.b14 = 0) && decide (a.b15 = 0)
def netB (n : Node) : Bool := (decide (n.of = 3) || decide (n.of = 2) && n.addr.rest0) && inR n.side 0 2
theorem run_eql_12 (w : World) (b4 b5 b6 b7 b8 b9 b10 b11 b12 b13 b14 b15 : Int) :
    (binOp .eql 87 (.agg #[.int .u8 b4, .int .u8 b5, .int .u8 b6, .int .u8 b7, .int .u8 b8, .int .u8 b9, .int .u8 b10, .int .u8 b11, .int .u8 b12, .int .u8 b13, .int .u8 b14, .int .u8 b15])
      (.agg #[.int .u8 0, .int .u8 0, .int .u8 0, .int .u8 0, .int .u8 0, .int .u8 0, .int .u8 0, .int .u8 0, .int .u8 0, .int .u8 0, .int .u8 0, .int .u8 0])).run Try.prog w =
    .ok (.bool ([b4, b5, b6, b7, b8, b9, b10, b11, b12, b13, b14, b15] == [0, 0, 0, 0, 0, 0, 0, 0, 0, 0, 0, 0])) w := by
  rw [run_eql_struct]
  have := run_equalIn_ints (P := Try.prog) (w := w) 9998 _ _ .u8 12 Try.underlying87 Try.underlying5 Try.sizeOf5 [b4, b5, b6, b7, b8, b9, b10, b11, b12, b13, b14, b15] [0, 0, 0, 0, 0, 0, 0, 0, 0, 0, 0, 0] rfl rfl
  simp only [List.map_cons, List.map_nil] at this
  rw [this]
  rfl
@[go_sem] theorem run_arrayAt_12 (w : World) (a : Addr) (len cap : Nat) (h : 12 ≤ len) : (Instr.arrayAt 87 (.slice (some a) len cap)).run Try.prog w = .ok (.pointer (some a)) w := by
  have h' : ¬ len < 12 := by omega
  simp [Instr.arrayAt, run_underlying Try.underlying87, h']
theorem rest0_eq (a : A16) : ([a.b4, a.b5, a.b6, a.b7, a.b8, a.b9, a.b10, a.b11, a.b12, a.b13, a.b14, a.b15] == [0, 0, 0, 0, 0, 0, 0, 0, 0, 0, 0, 0]) = a.rest0 := by
  rw [Bool.eq_iff_iff]
  simp [A16.rest0, and_assoc]
set_option maxRecDepth 100000 in
theorem tnet_any (lo hi : Nat) (w : World) : FnB lo hi (.func (.func 63) #[] #[]) netB w := by
  refine ⟨_, _, rfl, enters_of Try.func63 (by kernel_rfl) rfl, fun W hW n => ?_⟩
  have hE := fun w => run_eql_12 w n.addr.b4 n.addr.b5 n.addr.b6 n.addr.b7 n.addr.b8 n.addr.b9 n.addr.b10 n.addr.b11 n.addr.b12 n.addr.b13 n.addr.b14 n.addr.b15
  simp only [rest0_eq] at hE
  by_cases h1 : n.of = 3
  case pos =>
    go_enter Try.func63, Try.ntmps63
    go_wp2_with (go_at_call 47; refine (in_any _ _ _ _).mono ?_; rintro e w2 ⟨rfl, rfl⟩)
    go_ret
    exact ⟨by simp [netB, h1], (Below.refl _ _).alloc (Nat.le_refl _) _⟩
  by_cases h2 : n.of = 2
  case neg =>
    go_enter Try.func63, Try.ntmps63
    go_wp2_with (go_at_call 47; refine (in_any _ _ _ _).mono ?_; rintro e w2 ⟨rfl, rfl⟩)
    go_ret
    exact ⟨by simp [netB, h1, h2], (Below.refl _ _).alloc (Nat.le_refl _) _⟩
  cases h3 : n.addr.rest0
  all_goals
    go_enter Try.func63, Try.ntmps63
    go_wp2_with (go_at_call 47; refine (in_any _ _ _ _).mono ?_; rintro e w2 ⟨rfl, rfl⟩)
    go_ret
    exact ⟨by simp [netB, h1, h2, h3], (Below.refl _ _).alloc (Nat.le_refl _) _⟩
end Go.Proofs.Ytedhlofmkehfkaa
