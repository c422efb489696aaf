/- The document's Print. -/
import Derived.Test.YtckbcmoanadckaaDoorLineRc
import Derived.Test.YtckbcmoanadckaaDoorPrint
import Derived.Laws.BytesArg
namespace Go.Proofs.YtckbcmoanadckaaDoor
open Go.RowKit Go.Shelf Go.Deep
set_option linter.unusedVariables false
set_option linter.unusedSimpArgs false

/-- What an owned row of bytes is as a string. -/
theorem conv_own {W : World} {base n cap : Nat} {A : Option Addr} {l : List UInt8} (h : W.ownsRow base 5 1 (.slice A n cap) n (Lib.byteCells l)) (hn : n = l.length) : (convert 52 9 (.slice A n cap)).run Tryd.prog W = .ok (.string (bs l)) W := by
  rcases h.2 with ⟨h1, h0⟩ | ⟨g, c, cur, h1, _⟩
  · cases h1
    have : l = [] := List.length_eq_zero_iff.1 hn.symm
    subst this
    have h := run_convert_bytes_nil (P := Tryd.prog) W 52 5 Tryd.underlying52 Tryd.underlying5 0 0 9 Tryd.underlying9
    exact h
  · cases h1
    subst hn
    refine run_convert_bytes_back (P := Tryd.prog) W 52 9 5 ⟨g, 0, none⟩ cap l Tryd.underlying52 Tryd.underlying5 Tryd.underlying9 fun j hj => ?_
    refine own_cells h _ rfl j _ ?_
    unfold Lib.byteCells
    rw [List.getElem?_map, List.getElem?_eq_getElem hj]
    rfl
set_option maxRecDepth 100000 in
set_option maxHeartbeats 3200000 in
theorem rprint_any (A : Option Addr) (c : Nat) (ps : List Ins) (w : World) (hA : Rs encN w A ps) (hok : ∀ i ∈ ps, InsOk i) (hl : ps.length ≤ 4611686018427387904) : Calls Tryd.prog 12 #[.slice A ps.length c] w fun e w' => e = .returned (.tuple #[.string (bs (printT ps)), .int .i64 (printE ps)]) ∧ Below w.heap.size w w' := by
  obtain ⟨i0, hi, hz0, hz1, hz2⟩ := info_parts infoByte
  have HA := Lib.hid hA
  have Hok := Lib.hid hok
  have Hi := Lib.hid hi
  have Hz0 := Lib.hid hz0
  have Hz1 := Lib.hid hz1
  have Hz2 := Lib.hid hz2
  clear hA hok hi hz0 hz1 hz2
  unfold printT printE
  by_cases hbig : 4096 < ps.length
  · have b1 : (ps.length : Int) > 4096 := by omega
    rw [if_pos hbig, if_pos hbig]
    clear hbig
    go_enter Tryd.func12, Tryd.ntmps12
    go_wp2_with fail
    go_ret2
    exact ⟨rfl, Below.refl _ _⟩
  · have b1 : ¬ (ps.length : Int) > 4096 := by omega
    rw [if_neg hbig, if_neg hbig]
    have hl9 : ps.length ≤ 4096 := by omega
    clear hbig
    go_enter Tryd.func12, Tryd.ntmps12
    go_wp2_with fail
    go_loopg [4, 5] ps.length (fun g s4 s5 wr => ∃ (k : Nat) (B : Option Addr) (n cap : Nat), k + g = ps.length ∧ s4 = .slice B n cap ∧ s5 = .int .i64 k ∧ Aside (n = (printL (ps.take k)).length) ∧ n ≤ 2001 * 4096 ∧ wr.ownsRow w.heap.size 5 1 (.slice B n cap) n (Lib.byteCells (printL (ps.take k))) ∧ Below w.heap.size w wr)
    case atStart => exact ⟨0, none, 0, 0, by omega, rfl, rfl, by
        show _ = _
        rfl, by omega, own_nil _ _ _ _, Below.refl _ _⟩
    case round =>
      obtain ⟨k, B, n, cap, hk, rfl, rfl, hn, hn9, hown, hB⟩ := hrel
      have HB := Lib.hid hB
      have HO := Lib.hid hown
      have HS := Lib.hid hB.size
      have k0 : (0 : Int) ≤ (k : Int) := by omega
      have Hn := Lib.hid hn.out
      clear hown hB hn
      cases gk with
      | zero =>
        have k1 : ¬ (k : Int) < (ps.length : Int) := by omega
        have hfk : ps.take k = ps := List.take_of_length_le (by omega)
        have hcv := conv_own HO.out Hn.out
        rw [hfk] at hcv
        clear hfk
        go_wp2_with fail
        go_ret2
        exact ⟨rfl, HB.out⟩
      | succ g =>
        have k1 : (k : Int) < (ps.length : Int) := by omega
        have hkl : k < ps.length := by omega
        obtain ⟨b, o, rfl, -⟩ := HA.out (by omega)
        obtain ⟨x, hx⟩ : ∃ x, ps[k]? = some x := ⟨_, List.getElem?_eq_getElem hkl⟩
        obtain ⟨c0, c1, c2, c3⟩ := insn_cells (HA.out.later HB.out) hx
        have hxo := Hok.out x (List.mem_of_getElem? hx)
        have hsn : printL (ps.take (k + 1)) = (printL (ps.take k) ++ lineL x) ++ [10] := by rw [take_succ_getD hx, printL_snoc]
        have hlen : (printL (ps.take k)).length ≤ 2001 * k := by
          have := printL_len (ps.take k)
          rw [List.length_take] at this
          have h2 : 2001 * min k ps.length ≤ 2001 * k := Nat.mul_le_mul_left _ (by omega)
          omega
        have hk2 : 2001 * (k + 1) ≤ 2001 * 4096 := Nat.mul_le_mul_left _ (by omega)
        have hll := lineL_len x
        have cl := rline_any x wr hxo
        have Cl := Lib.hid cl
        have HSn := Lib.hid hsn
        have hn2 : n + (bs (lineL x)).size + 1 ≤ 2001 * 4096 := by rw [bs_size, Hn.out]; omega
        clear hsn hlen hll cl hx hxo hkl hk2
        go_wp2_with fail
        refine Cl.out.mono ?_
        rintro e w2 ⟨rfl, hB2⟩
        have hO2 := own_below HO.out hB2
        have hBt := HB.out.trans (hB2.mono HS.out)
        have HO2 := Lib.hid hO2
        have HBt := Lib.hid hBt
        have HSt := Lib.hid hBt.size
        clear hB2 hO2 hBt
        go_wp2_with (at_builtin; refine Lib.wpList_append_own_string _ rfl _ _ 52 9 rfl w.heap.size 5 i0 Tryd.underlying52 Tryd.underlying9 Hi.out Hz0.out Hz1.out Hz2.out (.slice B n cap) _ _ rfl HO2.out (bs (lineL x)) rfl ?d3 ?d4 ?d5 ?_)
        case d3 => unfold maxLen; omega
        case d4 => omega
        case d5 => have := HSt.out; omega
        intro v3 w3 hown3 hgrow3 _
        have hB3 := HBt.out.grown hgrow3 (by have := HSt.out; omega) (fun j e => (HO2.out.lt j e).1)
        rw [strCells_bs, ← Lib.byteCells_append] at hown3
        obtain ⟨B3, n3, cap3, rfl⟩ : ∃ ao n' cap, v3 = .slice ao n' cap := by
          rcases hown3.2 with ⟨hv, _⟩ | ⟨g, cap, cur, hv, _⟩
          · exact ⟨_, _, _, hv⟩
          · exact ⟨_, _, _, hv⟩
        obtain rfl : n3 = n + (bs (lineL x)).size := by
          rcases hown3.2 with ⟨hv, h0⟩ | ⟨g, cap, cur, hv, _⟩
          · cases hv; omega
          · cases hv; rfl
        have HO3 := Lib.hid hown3
        have HB3 := Lib.hid hB3
        have HS3 := Lib.hid hB3.size
        clear hown3 hgrow3 hB3
        go_wp2_with (at_builtin; refine wpList_append_own _ rfl _ _ 52 rfl w.heap.size 5 i0 (.int .u8 0) 1 1 Tryd.underlying52 Hi.out Hz0.out Hz1.out Hz2.out rfl (by decide) (.slice B3 (n + (bs (lineL x)).size) cap3) _ _ rfl (HO3.out.alloc _) ⟨w3.heap.size, 0, none⟩ 1 1 [.int .u8 10] rfl rfl ?c1 ?c2 ?c3 ?c4 ?c5 ?_)
        case c1 =>
          intro j u hj
          match j, hj with
          | 0, hj => simp at hj; subst hj; simp [Addr.add]
        case c2 => intro u hu; simp at hu; subst hu; rfl
        case c3 => unfold maxLen; omega
        case c4 => omega
        case c5 => have := HS3.out; simp; omega
        intro v4 w4 hown4 hgrow4 _
        have hB4 := (HB3.out.alloc HS3.out _).grown hgrow4 (by have := HS3.out; simp; omega) (fun j e => (HO3.out.lt j e).1)
        have hown4 : w4.ownsRow w.heap.size 5 1 v4 (n + (bs (lineL x)).size + 1) (Lib.byteCells (printL (ps.take (k + 1)))) := by
          rw [HSn.out, Lib.byteCells_append]
          exact hown4
        obtain ⟨B4, n4, cap4, rfl⟩ : ∃ ao n' cap, v4 = .slice ao n' cap := by
          rcases hown4.2 with ⟨hv, _⟩ | ⟨g, cap, cur, hv, _⟩
          · exact ⟨_, _, _, hv⟩
          · exact ⟨_, _, _, hv⟩
        obtain rfl : n4 = n + (bs (lineL x)).size + 1 := by
          rcases hown4.2 with ⟨hv, h0⟩ | ⟨g, cap, cur, hv, _⟩
          · cases hv; omega
          · cases hv; rfl
        have HO4 := Lib.hid hown4
        have HB4 := Lib.hid hB4
        clear hown4 hgrow4 hB4
        go_wp2_with fail
        go_roundg g
        case measure => omega
        case rel => exact ⟨k + 1, B4, _, cap4, by omega, rfl, by go_num, by
            show _ = _
            rw [HSn.out, List.length_append, List.length_append, ← Hn.out, bs_size]
            rfl, hn2, HO4.out, HB4.out⟩
end Go.Proofs.YtckbcmoanadckaaDoor
