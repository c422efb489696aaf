/- Print: a program's text. -/
import Derived.Test.YtckbcmoanadckaaDoorParse
namespace Go.Proofs.YtckbcmoanadckaaDoor
open Go.RowKit Go.Shelf Go.Deep
set_option linter.unusedVariables false
set_option linter.unusedSimpArgs false

/-- A program's text. -/
def printL (ps : List Ins) : List UInt8 := ps.flatMap fun i => lineL i ++ [10]
theorem printL_snoc (ps : List Ins) (i : Ins) : printL (ps ++ [i]) = (printL ps ++ lineL i) ++ [10] := by
  unfold printL
  rw [List.flatMap_append]
  simp
theorem lineL_len (i : Ins) : (lineL i).length ≤ 2000 := by
  have h1 := fillL_len i (formOf i)
  have h2 := formOf_len i
  unfold lineL
  omega
theorem printL_len : ∀ ps : List Ins, (printL ps).length ≤ 2001 * ps.length
  | [] => Nat.le_refl _
  | i :: ps => by
    have h1 := printL_len ps
    have h2 := lineL_len i
    show ((lineL i ++ [10]) ++ printL ps).length ≤ _
    simp only [List.length_append, List.length_cons, List.length_nil]
    omega
theorem insn_cells {w : World} {b o i : Nat} {xs : List Ins} {x : Ins} (h : Rs encN w (some ⟨b, o, none⟩) xs) (hi : xs[i]? = some x) :
    w.cell? ⟨b, o + i * 4, none⟩ = some (.int .u16 x.code) ∧ w.cell? ⟨b, o + i * 4 + 1, none⟩ = some (.int .u8 x.jt) ∧ w.cell? ⟨b, o + i * 4 + 2, none⟩ = some (.int .u8 x.jf) ∧ w.cell? ⟨b, o + i * 4 + 3, none⟩ = some (.int .u32 x.k) :=
  ⟨h.cell encN_ok hi (j := 0) rfl, h.cell encN_ok hi (j := 1) rfl, h.cell encN_ok hi (j := 2) rfl, h.cell encN_ok hi (j := 3) rfl⟩
/-- Print's answer. -/
def printT (ps : List Ins) : List UInt8 := if 4096 < ps.length then [] else printL ps
def printE (ps : List Ins) : Nat := if 4096 < ps.length then 32 else 0
set_option maxRecDepth 100000 in
set_option maxHeartbeats 3200000 in
theorem print_any (A : Option Addr) (c : Nat) (ps : List Ins) (w : World) (hA : Rs encN w A ps) (hok : ∀ i ∈ ps, InsOk i) (ht : Tab10 w) (hl : ps.length ≤ 4611686018427387904) : Calls Tryd.prog 14 #[.slice A ps.length c] w fun e w' => e = .returned (.tuple #[.string (bs (printT ps)), .int .i64 (printE ps)]) ∧ Below w.heap.size w w' := by
  have HA := Lib.hid hA
  have Hok := Lib.hid hok
  have HT := Lib.hid ht
  clear hA hok ht
  unfold printT printE
  by_cases hbig : 4096 < ps.length
  · have b1 : (ps.length : Int) > 4096 := by omega
    rw [if_pos hbig, if_pos hbig]
    clear hbig
    go_enter Tryd.func14, Tryd.ntmps14
    go_wp2_with fail
    go_ret2
    exact ⟨rfl, Below.refl _ _⟩
  · have b1 : ¬ (ps.length : Int) > 4096 := by omega
    rw [if_neg hbig, if_neg hbig]
    have hl9 : ps.length ≤ 4096 := by omega
    clear hbig
    go_enter Tryd.func14, Tryd.ntmps14
    go_wp2_with fail
    go_loopg [12] ps.length (fun g s12 wr => ∃ k : Nat, k + g = ps.length ∧ s12 = .int .i64 k ∧ Lib.IsBuilder 55 5 w.heap.size w.heap.size (Lib.byteCells (printL (ps.take k))) wr ∧ Below w.heap.size w wr)
    case atStart => exact ⟨0, by omega, rfl, isBuilder_new w _ (Nat.le_refl _), (Below.refl _ _).alloc (Nat.le_refl _) _⟩
    case round =>
      obtain ⟨k, hk, rfl, hb, hB⟩ := hrel
      have HB := Lib.hid hB
      have Hb := Lib.hid hb
      have HS := Lib.hid hB.size
      have k0 : (0 : Int) ≤ (k : Int) := by omega
      clear hb hB
      cases gk with
      | zero =>
        have k1 : ¬ (k : Int) < (ps.length : Int) := by omega
        have hfk : ps.take k = ps := List.take_of_length_le (by omega)
        have hb := Hb.out
        rw [hfk] at hb
        have cs := Tryd.Builder_String_any w.heap.size w.heap.size (printL ps) wr hb HS.out
        have Cs := Lib.hid cs
        clear hfk hb cs
        go_wp2_with fail
        refine Cs.out.mono ?_
        rintro e w2 ⟨rfl, hB2⟩
        have HF := Lib.hid (HB.out.trans hB2)
        clear hB2
        go_wp2_with fail
        go_ret2
        exact ⟨rfl, HF.out⟩
      | succ g =>
        have k1 : (k : Int) < (ps.length : Int) := by omega
        have hkl : k < ps.length := by omega
        obtain ⟨b, o, rfl, -⟩ := HA.out (by omega)
        obtain ⟨x, hx⟩ : ∃ x, ps[k]? = some x := ⟨_, List.getElem?_eq_getElem hkl⟩
        obtain ⟨c0, c1, c2, c3⟩ := insn_cells (HA.out.later HB.out) hx
        have hxo := Hok.out x (List.mem_of_getElem? hx)
        have hsn : printL (ps.take (k + 1)) = (printL (ps.take k) ++ lineL x) ++ [10] := by rw [take_succ_getD hx, printL_snoc]
        have hlen : (printL (ps.take k)).length ≤ 2001 * 4096 := by
          have := printL_len (ps.take k)
          rw [List.length_take] at this
          have h2 : 2001 * min k ps.length ≤ 2001 * 4096 := Nat.mul_le_mul_left _ (by omega)
          omega
        have hll := lineL_len x
        have cl := line_any x (wr.alloc (objN x)) hxo (HT.out.later (HB.out.alloc HS.out _))
        have Cl := Lib.hid cl
        have HSn := Lib.hid hsn
        have Hlen := Lib.hid hlen
        have Hll := Lib.hid hll
        clear hsn hlen hll cl hx hxo hkl
        go_wp2_with fail
        refine Cl.out.mono ?_
        rintro e w2 ⟨rfl, hB2⟩
        have hb2 := builder_later Hb.out (((Below.refl _ wr).alloc (Nat.le_refl _) (objN x)).trans (hB2.mono (by simp)))
        have hBt := HB.out.trans ((((Below.refl _ wr).alloc (Nat.le_refl _) (objN x)).trans (hB2.mono (by simp))).mono HS.out)
        have HBt := Lib.hid hBt
        have cw := writeString_any w.heap.size w.heap.size _ (bs (lineL x)) w2 hb2 (by
          rw [bs_size, Lib.byteCells_length]
          have h1 := Hlen.out
          have h2 := Hll.out
          omega) hBt.size
        have Cw := Lib.hid cw
        clear hB2 cw hb2 hBt
        go_wp2_with fail
        refine Cw.out.mono ?_
        rintro e w3 ⟨rfl, hb3, hB3⟩
        have hBt3 := HBt.out.trans hB3
        have HBt3 := Lib.hid hBt3
        have cb := writeByte_any w.heap.size w.heap.size _ 10 w3 (.inr hb3) (by
          rw [List.length_append, Lib.byteCells_length, strCells_bs, Lib.byteCells_length]
          have h1 := Hlen.out
          have h2 := Hll.out
          omega) hBt3.size
        have Cb := Lib.hid cb
        clear hb3 hB3 cb hBt3
        go_wp2_with fail
        refine Cb.out.mono ?_
        rintro e w4 ⟨rfl, hb4, hB4⟩
        have Hb4 := Lib.hid hb4
        have HB4 := Lib.hid hB4
        clear hb4 hB4
        go_wp2_with fail
        go_roundg g
        case measure => omega
        case rel => exact ⟨k + 1, by omega, by go_num, by
            have := Hb4.out
            rw [HSn.out, Lib.byteCells_append, Lib.byteCells_append]
            rw [strCells_bs] at this
            exact .inr this, HBt3.out.trans HB4.out⟩
end Go.Proofs.YtckbcmoanadckaaDoor
