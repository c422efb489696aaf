/- Masks and nets: walked. -/
import Derived.Test.YtoldhhaplndkcaaDoorRowB
import Derived.Test.YtoldhhaplndkcaaDoorMask
import Derived.Test.YtoldhhaplndkcaaDoorArr
import Derived.RegionTactic
import Derived.IntWalk
import Derived.Laws.MakeOwn
namespace Go.Proofs.YtoldhhaplndkcaaDoor
open Go.RowKit Go.Shelf
set_option linter.unusedVariables false
set_option linter.unusedSimpArgs false

/-- The bytes' row that a net is. -/
def NetEnd (w : World) (xs : List UInt8) (bits : Int) (e : Ending) (w' : World) : Prop :=
  ∃ A c, e = .returned (.tuple #[.slice A (netR xs bits).length c, .int .i64 (netE xs bits : Int)]) ∧ OwnG 1 encU1 5 w' w.heap.size (.slice A (netR xs bits).length c) (netR xs bits) ∧ Below w.heap.size w w'
/-- Bytes as numbers; a block of noughts. -/
def natsU (l : List UInt8) : List Nat := l.map fun b : UInt8 => b.toNat
theorem natsU_len (l : List UInt8) : (natsU l).length = l.length := List.length_map _
theorem natsU_app (a b : List UInt8) : natsU (a ++ b) = natsU a ++ natsU b := List.map_append
def zerosA (L : Nat) : Array Value := ((List.replicate L 0).map c8).toArray
theorem made_zero (L : Nat) : madeCells (Value.int .u8 0).cells (L * 1) = ((List.replicate L 0).map c8).toArray := by
  rw [Nat.mul_one]
  apply Array.ext
  · simp [madeCells, Value.cells]
  · intro k h1 h2
    simp [madeCells, Value.cells, Nat.mod_one]
theorem run_make8 (w : World) (L : Nat) (hL : L ≤ 140737488355328) : (Instr.makeSlice 34 (.int .i64 (L : Int)) (.int .i64 (L : Int))).run Tryd.prog w = .ok (.slice (some ⟨w.heap.size, 0, none⟩) L L) (w.alloc (.cells (zerosA L) 5)) := by
  obtain ⟨i0, hi0, hz0, hz1, hz2⟩ := info_parts infoU1
  have := run_make (P := Tryd.prog) w 34 5 i0 (.int .u8 0) Tryd.underlying34 hi0 hz0 .i64 .i64 (L : Int) (L : Int) (by omega) (Int.le_refl _) (by rw [hz2]; omega) (by omega)
  rw [hz1, Int.toNat_natCast, made_zero] at this
  exact this
theorem flat_nat (l : List UInt8) : flatG encU1 l = (natsU l).map c8 := by
  unfold flatG
  induction l with
  | nil => rfl
  | cons x xs ih =>
    rw [List.flatMap_cons, ih]
    rfl
theorem arr_own {W : World} {g base : Nat} {l : List UInt8} (h : ArrAt 5 W g (natsU l)) (hb : base ≤ g) (hl : l.length ≤ 140737488355328) : OwnG 1 encU1 5 W base (.slice (some ⟨g, 0, none⟩) l.length l.length) l := by
  unfold OwnG
  rw [flat_nat]
  refine ⟨by rw [List.length_map, natsU_len, Nat.mul_one], .inr ⟨g, l.length, _, rfl, hb, h, Nat.le_refl _, by unfold maxLen; omega, by rw [List.size_toArray, List.length_map, natsU_len, Nat.mul_one], ?_⟩⟩
  rw [Nat.mul_one, List.take_of_length_le (by rw [List.length_map, natsU_len]; exact Nat.le_refl _)]
theorem clamp_eq (d : Int) : (min (max d 0) 8).toNat = clampB d := by
  unfold clampB
  split
  · omega
  · split <;> omega
theorem and_keepB (d : Int) (x : UInt8) : Go.bits .and .u8 (x.toNat : Int) (65280 / 2 ^ (min (max d 0) 8).toNat % 256) = ((keepB8 d x).toNat : Int) := by
  rw [clamp_eq, keepB8_toNat]
  exact and_keep (clampB_le d) x.toNat_lt
theorem pad_setU (us : List Nat) (x : Nat) (k L : Nat) (h : us.length = k) (hk : k < L) : (us ++ List.replicate (L - k) 0).set k x = (us ++ [x]) ++ List.replicate (L - (k + 1)) 0 := by
  rw [List.set_append_right _ _ (by omega), h, Nat.sub_self, show L - k = (L - (k + 1)) + 1 from by omega, List.replicate_succ, List.set_cons_zero, List.append_assoc]
  rfl
set_option maxRecDepth 100000 in
set_option maxHeartbeats 1600000 in
theorem net_any (A : Option Addr) (c : Nat) (xs : List UInt8) (bits : Int) (w : World) (hA : Rs encU1 w A xs) (hl : xs.length ≤ 140737488351232) :
    Calls Tryd.prog 20 #[.slice A xs.length c, .int .i64 bits] w (NetEnd w xs bits) := by
  have HA := Lib.hid hA
  clear hA
  by_cases h4 : xs.length = 4 ∨ xs.length = 16
  · by_cases hb : 0 ≤ bits ∧ bits ≤ 8 * (xs.length : Int)
    · obtain ⟨hb0, hb1⟩ := hb
      have HE := Lib.hid (net_ok h4 hb0 hb1)
      obtain ⟨L, hL⟩ : ∃ L, xs.length = L := ⟨_, rfl⟩
      have HL := Lib.hid hL
      have q1 : ((L : Int) != 4) = true ∧ ((L : Int) != 16) = false ∨ ((L : Int) != 4) = false := by
        rcases h4 with h | h
        · right; rw [← hL, h]; rfl
        · left; rw [← hL, h]; exact ⟨rfl, rfl⟩
      have hL16 : L ≤ 16 := by omega
      rw [hL] at hb1 ⊢
      have b0 : ¬ bits < 0 := by omega
      have b1 : ¬ bits > 8 * (L : Int) := by omega
      clear h4 hL hl
      go_enter Tryd.func20, Tryd.ntmps20
      rcases q1 with ⟨q1, q2⟩ | q1
      all_goals
        have mk := run_make8 w L (by omega)
        go_wp2_with fail
        clear mk
        go_loopg [31] L (fun g s31 wr => ∃ i : Nat, i + g = L ∧ s31 = .int .i64 i ∧ ArrAt 5 wr w.heap.size (natsU (maskL bits (xs.take i)) ++ List.replicate (L - i) 0) ∧ Below w.heap.size w wr)
        case atStart => exact ⟨0, by omega, rfl, (show ArrAt _ _ _ (natsU (maskL bits (xs.take 0)) ++ List.replicate (L - 0) 0) from ArrAt.new 5 w (List.replicate L 0)), (Below.refl _ w).alloc (Nat.le_refl _) _⟩
        case round =>
          obtain ⟨i, hi, rfl, hR, hB⟩ := hrel
          have HB := Lib.hid hB
          have HR := Lib.hid hR
          have i0 : (0 : Int) ≤ (i : Int) := by omega
          clear hB hR
          cases gk with
          | zero =>
            have i1 : ¬ (i : Int) < (L : Int) := by omega
            have hiL : i = L := by omega
            have HI := Lib.hid hiL
            clear hiL hi
            go_wp2_with fail
            go_ret2
            have hw := HR.out
            rw [HI.out, Nat.sub_self, List.take_of_length_le (by rw [HL.out]; exact Nat.le_refl _), List.replicate_zero, List.append_nil] at hw
            have ho := arr_own hw (Nat.le_refl _) (by rw [maskL_len]; have := HL.out; omega)
            refine ⟨some ⟨w.heap.size, 0, none⟩, L, ?_, ?_, HB.out⟩
            · rw [HE.out.1, HE.out.2, maskL_len, HL.out]
              rfl
            · rw [HE.out.2]
              rw [maskL_len, HL.out] at ho
              rw [maskL_len, HL.out]
              exact ho
          | succ g =>
            have i1 : (i : Int) < (L : Int) := by omega
            obtain ⟨x, hx⟩ : ∃ x, xs[i]? = some x := ⟨_, List.getElem?_eq_getElem (by have := HL.out; omega)⟩
            obtain ⟨b, o, rfl, -⟩ := HA.out (by have := HL.out; omega)
            have c0 := bytes_cell (HA.out.later HB.out) hx
            obtain ⟨d, hd⟩ : ∃ d, bits - 8 * (i : Int) = d := ⟨_, rfl⟩
            have ha := and_keepB d x
            have hml : (natsU (maskL bits (xs.take i)) ++ List.replicate (L - i) 0).length = L := by
              rw [List.length_append, natsU_len, maskL_len, List.length_take, List.length_replicate]
              have := HL.out
              omega
            obtain ⟨y, hy⟩ : ∃ y, (natsU (maskL bits (xs.take i)) ++ List.replicate (L - i) 0)[i]? = some y := ⟨_, List.getElem?_eq_getElem (by omega)⟩
            have c1 := HR.out.cell hy
            have f1 := HR.out.frozen i
            have hnx : (natsU (maskL bits (xs.take i)) ++ List.replicate (L - i) 0).set i (keepB8 d x).toNat = natsU (maskL bits (xs.take (i + 1))) ++ List.replicate (L - (i + 1)) 0 := by
              rw [pad_setU _ _ i L (by rw [natsU_len, maskL_len, List.length_take]; have := HL.out; omega) (by omega), take_succ_getD hx, maskL_snoc, natsU_app, List.length_take, show min i xs.length = i from by have := HL.out; omega, hd]
              rfl
            have hR2 := HR.out.set (i := i) (keepB8 d x).toNat (by omega)
            rw [hnx] at hR2
            have HR2 := Lib.hid hR2
            have HI := Lib.hid hi
            clear hx hml hy hnx hR2 hi
            go_wp2_with fail
            go_roundg g
            case measure => omega
            case rel => exact ⟨i + 1, by have := HI.out; omega, by go_num, HR2.out, HB.out.setCell (p := ⟨w.heap.size, i, none⟩) (Nat.le_refl _) _⟩
    · have hE := net_bits h4 hb
      have HE := Lib.hid hE
      clear hE
      have q1 : ((xs.length : Int) != 4) = true ∧ ((xs.length : Int) != 16) = false ∨ ((xs.length : Int) != 4) = false := by
        rcases h4 with h | h
        · right; rw [h]; rfl
        · left; rw [h]; exact ⟨rfl, rfl⟩
      have q2 : bits < 0 ∨ (¬ bits < 0 ∧ bits > 8 * (xs.length : Int)) := by omega
      have hl16 : (xs.length : Int) ≤ 16 := by omega
      clear h4 hb
      rcases q1 with ⟨q1, q3⟩ | q1 <;> rcases q2 with q2 | ⟨q2, q4⟩
      all_goals
        go_enter Tryd.func20, Tryd.ntmps20
        go_wp2_with fail
        go_ret2
        exact ⟨none, 0, by rw [HE.out.1, HE.out.2]; rfl, by rw [HE.out.2]; exact own_nil _ _ _ _, Below.refl _ _⟩
  · have hE := net_form (bits := bits) h4
    have HE := Lib.hid hE
    have q1 : ((xs.length : Int) != 4) = true := by rw [bne_iff_ne]; omega
    have q2 : ((xs.length : Int) != 16) = true := by rw [bne_iff_ne]; omega
    clear hE h4
    go_enter Tryd.func20, Tryd.ntmps20
    go_wp2_with fail
    go_ret2
    exact ⟨none, 0, by rw [HE.out.1, HE.out.2]; rfl, by rw [HE.out.2]; exact own_nil _ _ _ _, Below.refl _ _⟩
end Go.Proofs.YtoldhhaplndkcaaDoor
