/- Slices of bytes: package addr's Net and In. -/
import Derived.Test.YtedhlofmkehfkaaNode
import Derived.Lib.Hide
import Derived.Deep.OwnRows
import Derived.Laws.BytesArg
namespace Go.Proofs.Ytedhlofmkehfkaa
open Go.RowKit
set_option linter.unusedVariables false
set_option linter.unusedSimpArgs false

/-- From an address on lie these cells. -/
def RdAt (w : World) (b o : Nat) (xs : List Value) : Prop := ∀ j u, xs[j]? = some u → w.cell? ⟨b, o + j, none⟩ = some u
/-- A slice that reads as these cells, sz of them an element; nil, empty and others alike. -/
def Sl (w : World) (sz : Nat) (A : Option Addr) (n : Nat) (xs : List Value) : Prop :=
  xs.length = n * sz ∧ n ≤ 9223372036854775807 ∧ (0 < n → ∃ b o, A = some ⟨b, o, none⟩ ∧ RdAt w b o xs)
theorem RdAt.later {w w' : World} {b o : Nat} {xs : List Value} (h : RdAt w b o xs) (hb : Below w.heap.size w w') : RdAt w' b o xs :=
  fun j u hu => (hb.cell (World.block_lt_of_cell? w _ (h j u hu))).trans (h j u hu)
theorem Sl.later {w w' : World} {sz : Nat} {A : Option Addr} {n : Nat} {xs : List Value} (h : Sl w sz A n xs) (hb : Below w.heap.size w w') : Sl w' sz A n xs :=
  ⟨h.1, h.2.1, fun hn => by
    obtain ⟨b, o, e, hr⟩ := h.2.2 hn
    exact ⟨b, o, e, hr.later hb⟩⟩
/-- Whole numbers as cells. -/
def nums (k : IntKind) (xs : List Int) : List Value := xs.map (Value.int k)
theorem nums_length (k : IntKind) (xs : List Int) : (nums k xs).length = xs.length := by simp [nums]
theorem nums_get (k : IntKind) (xs : List Int) (j : Nat) (h : j < xs.length) : (nums k xs)[j]? = some (.int k (xs.getD j 0)) := by
  simp [nums, List.getElem?_eq_getElem h, List.getD_eq_getElem?_getD]
/-- A block that holds these cells and no others. -/
def RowAt (w : World) (g : Nat) (e : TypeId) (xs : List Value) : Prop := w.heap[g]? = some (.cells xs.toArray e (0, 0))
theorem RowAt.cell {w : World} {g : Nat} {e : TypeId} {xs : List Value} (h : RowAt w g e xs) (j : Nat) : w.cell? ⟨g, j, none⟩ = xs[j]? := by
  rw [cell_of_row w g j _ e (0, 0) h]
  simp
theorem RowAt.free {w : World} {g : Nat} {e : TypeId} {xs : List Value} (h : RowAt w g e xs) (j : Nat) : w.frozen? ⟨g, j, none⟩ = false := frozen_of_row w g j _ e h
theorem RowAt.set {w : World} {g : Nat} {e : TypeId} {xs : List Value} (h : RowAt w g e xs) (j : Nat) (v : Value) : RowAt (w.setCell ⟨g, j, none⟩ v) g e (xs.set j v) := by
  unfold RowAt
  rw [heap_setCell_same w g j _ e v h]
  simp
theorem RowAt.lt {w : World} {g : Nat} {e : TypeId} {xs : List Value} (h : RowAt w g e xs) : g < w.heap.size := (Array.getElem?_eq_some_iff.1 h).1
theorem RowAt.later {w w' : World} {g : Nat} {e : TypeId} {xs : List Value} (h : RowAt w g e xs) (hb : Below w.heap.size w w') : RowAt w' g e xs := (hb.block g h.lt).trans h
theorem RowAt.rd {w : World} {g : Nat} {e : TypeId} {xs : List Value} (h : RowAt w g e xs) : RdAt w g 0 xs := fun j u hu => by rw [Nat.zero_add, h.cell, hu]
theorem RowAt.sl {w : World} {g : Nat} {e : TypeId} {xs : List Value} (h : RowAt w g e xs) (sz n : Nat) (hl : xs.length = n * sz) (hn : n ≤ 9223372036854775807) : Sl w sz (some ⟨g, 0, none⟩) n xs :=
  ⟨hl, hn, fun _ => ⟨g, 0, rfl, h.rd⟩⟩
theorem RowAt.made (w : World) (z : Value) (n : Nat) (e : TypeId) : RowAt (w.alloc (.cells (madeCells #[z] n) e)) w.heap.size e (List.replicate n z) := by
  unfold RowAt
  rw [heap_alloc_new, ← toList_madeCells_one]

/-! ### Net -/
def netCode (n : Nat) (bits : Int) : Int := if n ≠ 4 ∧ n ≠ 16 then 60 else if bits < 0 ∨ 8 * (n : Int) < bits then 61 else 0
theorem net_form (A : Option Addr) (n c : Nat) (bits : Int) (w : World) (h4 : n ≠ 4) (h16 : n ≠ 16) :
    Calls Try.prog 93 #[.slice A n c, .int .i64 bits] w fun e w' => e = .returned (.tuple #[.slice none 0 0, .int .i64 60]) ∧ w = w' := by
  have e4 : ((n : Int) == 4) = false := beq_eq_false_iff_ne.2 (by omega)
  have e5 : ((n : Int) != 4) = true := bne_iff_ne.2 (by omega)
  have e6 : ((n : Int) != 16) = true := bne_iff_ne.2 (by omega)
  go_enter Try.func93, Try.ntmps93
  go_wp2
  go_ret2
  exact ⟨rfl, rfl⟩
/-- The guards of the first test, of a length that is 4 or 16. -/
theorem net_guard (n : Nat) (hn : n = 4 ∨ n = 16) : (((n : Int) != 4) = false ∧ 4 ≤ n ∧ n ≤ 4) ∨ (((n : Int) != 4) = true ∧ ((n : Int) != 16) = false ∧ 16 ≤ n ∧ n ≤ 16) := by
  rcases hn with rfl | rfl
  · exact .inl ⟨rfl, by omega, by omega⟩
  · exact .inr ⟨rfl, rfl, by omega, by omega⟩
theorem net_bits (A : Option Addr) (n c : Nat) (bits : Int) (w : World) (hn : n = 4 ∨ n = 16) (hb : bits < 0 ∨ 8 * (n : Int) < bits) :
    Calls Try.prog 93 #[.slice A n c, .int .i64 bits] w fun e w' => e = .returned (.tuple #[.slice none 0 0, .int .i64 61]) ∧ w = w' := by
  rcases net_guard n hn with ⟨g1, g2, g3⟩ | ⟨g1, g4, g2, g3⟩ <;> by_cases h0 : bits < 0
  all_goals
    clear hn
    first | (have h1 : 8 * (n : Int) < bits := by omega) | skip
    clear hb
    go_enter Try.func93, Try.ntmps93
    go_wp2
    go_ret2
    exact ⟨rfl, rfl⟩
/-- A number, cut to what lies from 0 to 8. -/
def clamp8 (x : Int) : Int := if 8 < (if x < 0 then 0 else x) then 8 else if x < 0 then 0 else x
/-- The bytes of a net. -/
def netByte (bits : Int) (i : Nat) (b : Int) : Int := Go.bits .and .u8 b (65280 / 2 ^ (clamp8 (bits - 8 * (i : Int))).toNat % 256)
def netL (bits : Int) : List Int → Nat → List Int
  | [], _ => []
  | b :: r, i => netByte bits i b :: netL bits r (i + 1)
theorem netL_append (bits : Int) (ys : List Int) : ∀ (xs : List Int) (i : Nat), netL bits (xs ++ ys) i = netL bits xs i ++ netL bits ys (i + xs.length)
  | [], i => by simp [netL]
  | x :: xs, i => by simp [netL, netL_append bits ys xs (i + 1), Nat.add_assoc, Nat.add_comm 1]
theorem netL_length (bits : Int) : ∀ (xs : List Int) (i : Nat), (netL bits xs i).length = xs.length
  | [], _ => rfl
  | x :: xs, i => by simp [netL, netL_length bits xs (i + 1)]
theorem take_succ_getD (xs : List Int) (k : Nat) (h : k < xs.length) : xs.take (k + 1) = xs.take k ++ [xs.getD k 0] := by
  rw [List.take_succ_eq_append_getElem h]
  simp [List.getD_eq_getElem?_getD, List.getElem?_eq_getElem h]
theorem netL_take (bits : Int) (xs : List Int) (k : Nat) (h : k < xs.length) : netL bits (xs.take (k + 1)) 0 = netL bits (xs.take k) 0 ++ [netByte bits k (xs.getD k 0)] := by
  rw [take_succ_getD xs k h, netL_append, List.length_take, Nat.min_eq_left (Nat.le_of_lt h), Nat.zero_add]
  rfl
/-- A round of the loop: the next cell of the row is written. -/
theorem row_step {w : World} {g : Nat} {e : TypeId} {ys : List Value} {n k : Nat} {z v : Value} (h : RowAt w g e (ys ++ List.replicate (n - k) z)) (hl : ys.length = k) (hk : k < n) :
    RowAt (w.setCell ⟨g, k, none⟩ v) g e ((ys ++ [v]) ++ List.replicate (n - (k + 1)) z) := by
  have := h.set k v
  rw [List.set_append_right _ _ (by omega), hl, Nat.sub_self, show n - k = (n - (k + 1)) + 1 from by omega, List.replicate_succ, List.set_cons_zero] at this
  simpa using this
theorem row_next {w : World} {g : Nat} {e : TypeId} {ys : List Value} {n k : Nat} {z : Value} (h : RowAt w g e (ys ++ List.replicate (n - k) z)) (hl : ys.length = k) (hk : k < n) : w.cell? ⟨g, k, none⟩ = some z := by
  rw [h.cell, List.getElem?_append_right (by omega), hl, Nat.sub_self, show n - k = (n - (k + 1)) + 1 from by omega, List.replicate_succ]
  rfl
set_option maxHeartbeats 1000000 in
theorem net_any (b o n c : Nat) (bits : Int) (xs : List Int) (w : World) (hl : xs.length = n) (hr : RdAt w b o (nums .u8 xs)) (hn : n = 4 ∨ n = 16) (hb0 : 0 ≤ bits) (hb1 : bits ≤ 8 * (n : Int)) :
    Calls Try.prog 93 #[.slice (some ⟨b, o, none⟩) n c, .int .i64 bits] w fun e w' => ∃ g, e = .returned (.tuple #[.slice (some ⟨g, 0, none⟩) n n, .int .i64 0]) ∧ RowAt w' g 5 (nums .u8 (netL bits xs 0)) ∧ w.heap.size ≤ g ∧ Below w.heap.size w w' := by
  have hn1 : n ≤ 16 := by omega
  have hn4 : 4 ≤ n := by omega
  have hmk := run_make_row' (P := Try.prog) 88 5 (.int .u8 0) 1 Try.underlying88 (by kernel_rfl) rfl .i64 .i64 n (by omega) (by omega)
  have hcmp : ((n : Int) != 4 && (n : Int) != 16) = false := by rcases hn with rfl | rfl <;> rfl
  obtain ⟨g, hg⟩ : ∃ g, w.heap.size = g := ⟨_, rfl⟩
  have R0 := RowAt.made w (.int .u8 0) n 5
  have B0 : Below w.heap.size w (w.alloc (.cells (madeCells #[.int .u8 0] n) 5)) := (Below.refl _ _).alloc (Nat.le_refl _) _
  rcases net_guard n hn with ⟨g1, g2, g3⟩ | ⟨g1, g4, g2, g3⟩
  all_goals
    clear hn hcmp
    go_enter Try.func93, Try.ntmps93
    go_wp2
    rw [hg] at R0
    go_loopw [31] (fun i wr => ∃ k : Nat, k ≤ n ∧ i = .int .i64 k ∧ RowAt wr g 5 (nums .u8 (netL bits (xs.take k) 0) ++ List.replicate (n - k) (.int .u8 0)) ∧ Below g w wr) (fun i _ => n - (intOf i).toNat)
    case atStart => exact ⟨0, by omega, rfl, by simpa [netL, nums] using R0, hg ▸ B0⟩
    case round =>
      obtain ⟨k, hk, rfl, hR, hB⟩ := hrel
      by_cases hlt : k < n
      · have hlen : (nums .u8 (netL bits (xs.take k) 0)).length = k := by rw [nums_length, netL_length, List.length_take]; omega
        have hcell : wr.cell? ⟨b, o + k, none⟩ = some (.int .u8 (xs.getD k 0)) := by
          have := hr k _ (nums_get .u8 xs k (by omega))
          exact (hB.cell (hg ▸ World.block_lt_of_cell? w _ this)).trans this
        have hg2 : wr.cell? ⟨g, k, none⟩ = some (.int .u8 0) := row_next hR hlen hlt
        have hf2 : wr.frozen? ⟨g, k, none⟩ = false := hR.free k
        have HR := Lib.hid (row_step (v := .int .u8 (netByte bits k (xs.getD k 0))) hR hlen hlt)
        have HT := Lib.hid (netL_take bits xs k (by omega))
        have HB := Lib.hid hB
        clear hR hB hg R0 B0 hmk hr hl hlen
        go_wp2
        all_goals
          go_roundw
          case rel => exact ⟨k + 1, by omega, by go_num, by rw [HT.out, nums, List.map_append]; exact HR.out, HB.out.setCell (Nat.le_refl _) _⟩
          case measure => simp [intOf]; omega
      · have hkn : k = n := by omega
        have HR : Hid (RowAt wr g 5 (nums .u8 (netL bits xs 0))) := by
          rw [hkn, Nat.sub_self, List.replicate_zero, List.append_nil, List.take_of_length_le (by omega)] at hR
          exact hR
        have HB : Hid (w.heap.size ≤ g ∧ Below w.heap.size w wr) := by
          rw [hg]
          exact ⟨Nat.le_refl _, hB⟩
        clear hR hB hg R0 B0 hmk hr hl hkn
        go_wp2
        go_ret2
        exact ⟨g, rfl, HR.out, HB.out⟩
end Go.Proofs.Ytedhlofmkehfkaa
