/- fill: a form with an instruction's numbers in it. -/
import Derived.Test.YtckbcmoanadckaaDoorRowG
namespace Go.Proofs.YtckbcmoanadckaaDoor
open Go.RowKit Go.Shelf
set_option linter.unusedVariables false
set_option linter.unusedSimpArgs false

theorem isBuilder_new (w : World) (B : Nat) (hB : B ≤ w.heap.size) : Lib.IsBuilder 55 5 B w.heap.size (Lib.byteCells []) (w.alloc (.cells #[.pointer none, .slice none 0 0] 55)) :=
  .inl ⟨hB, .slice none 0 0, heap_alloc_new w _, own_nil _ _ _ _, by simp [Value.ownBlock]⟩
theorem builder_later {B b : Nat} {bs : List Value} {w W : World} (h : Lib.IsBuilder 55 5 B b bs w) (hb : Below w.heap.size w W) : Lib.IsBuilder 55 5 B b bs W := by
  rcases h with ⟨h1, v, h2, h3, h4⟩ | ⟨h1, v, h2, h3, h4⟩
  · exact .inl ⟨h1, v, (hb.block b (Array.getElem?_eq_some_iff.1 h2).1).trans h2, own_below h3 hb, h4⟩
  · exact .inr ⟨h1, v, (hb.block b (Array.getElem?_eq_some_iff.1 h2).1).trans h2, own_below h3 hb, h4⟩
theorem strCells_bs (l : List UInt8) : Lib.strCells (bs l) = Lib.byteCells l := by
  rw [Lib.strCells_eq, bs_list]
theorem byte_get (s : ByteArray) (i : Nat) (h : i < s.size) : s.data.toList[i]'(by simpa using h) = s[i] := by
  rw [Array.getElem_toList]
  rfl
theorem fillL_snoc (f : List UInt8) (b : UInt8) (i : Ins) : fillL (f ++ [b]) i = fillL f i ++ fillC i b := by
  unfold fillL
  rw [List.flatMap_append]
  simp
theorem fillC_len (i : Ins) (b : UInt8) : (fillC i b).length ≤ 20 := by
  unfold fillC
  repeat' split
  · exact dcl_len _
  · exact dcl_len _
  · exact dcl_len _
  · exact dcl_len _
  · show 1 ≤ 20
    decide
theorem fillL_len (i : Ins) : ∀ f : List UInt8, (fillL f i).length ≤ 20 * f.length
  | [] => Nat.le_refl _
  | b :: f => by
    have h1 := fillL_len i f
    have h2 := fillC_len i b
    show (fillC i b ++ fillL f i).length ≤ _
    rw [List.length_append, List.length_cons]
    omega
theorem getElem_bs (f : List UInt8) (k : Nat) (h : k < (bs f).size) : (bs f)[k] = f[k]'(by rwa [bs_size] at h) := by
  rw [← byte_get _ k h]
  simp [bs]
set_option maxRecDepth 100000 in
set_option maxHeartbeats 3200000 in
theorem fill_any (f : List UInt8) (i : Ins) (w : World) (hf : f.length ≤ 100000000) (hi : InsOk i) (ht : Tab10 w) : Calls Tryd.prog 25 #[.string (bs f), aggN i] w fun e w' => e = .returned (.string (bs (fillL f i))) ∧ Below w.heap.size w w' := by
  obtain ⟨h1, h2, h3, h4⟩ := hi
  have hsz := bs_size f
  have Hsz := Lib.hid hsz
  have Ht := Lib.hid ht
  have hS : (bs f).size ≤ 4611686018427387904 := by omega
  clear ht hsz
  go_enter Tryd.func25, Tryd.ntmps25
  go_wp2_with fail
  go_loopg [6] f.length (fun g s6 wr => ∃ k : Nat, k + g = f.length ∧ s6 = .int .i64 k ∧ Lib.IsBuilder 55 5 (w.heap.size + 1) (w.heap.size + 1) (Lib.byteCells (fillL (f.take k) i)) wr ∧ Below (w.heap.size + 1) (w.alloc (objN i)) wr)
  case atStart => exact ⟨0, by omega, rfl, by
      have := isBuilder_new (w.alloc (objN i)) (w.heap.size + 1) (by simp)
      rw [show (w.alloc (objN i)).heap.size = w.heap.size + 1 from by simp] at this
      exact this, (Below.refl _ _).alloc (by simp) _⟩
  case round =>
    obtain ⟨k, hk, rfl, hb, hB⟩ := hrel
    have HB := Lib.hid hB
    have Hb := Lib.hid hb
    have hB0 : Below w.heap.size w wr := ((Below.refl _ w).alloc (Nat.le_refl _) (objN i)).trans (hB.mono (by omega))
    have HB0 := Lib.hid hB0
    have HT := Lib.hid (Ht.out.later hB0)
    have hSr := hB.size
    have k0 : (0 : Int) ≤ (k : Int) := by omega
    clear hb hB0
    cases gk with
    | zero =>
      have k1 : ¬ (k : Int) < ((bs f).size : Int) := by rw [Hsz.out]; omega
      have hfk : f.take k = f := List.take_of_length_le (by omega)
      have hb := Hb.out
      rw [hfk] at hb
      have cs := Tryd.Builder_String_any (w.heap.size + 1) (w.heap.size + 1) (fillL f i) wr hb (by simpa using hSr)
      have Cs := Lib.hid cs
      clear hfk hb cs hSr hB
      go_wp2_with fail
      refine Cs.out.mono ?_
      rintro e w2 ⟨rfl, hB2⟩
      have HF := Lib.hid (HB0.out.trans (hB2.mono (by omega)))
      clear hB2
      go_wp2_with fail
      go_ret
      exact ⟨rfl, HF.out⟩
    | succ g =>
      have k1 : (k : Int) < ((bs f).size : Int) := by rw [Hsz.out]; omega
      have hkf : k < f.length := by omega
      obtain ⟨b, hbk⟩ : ∃ b, f[k]? = some b := ⟨_, List.getElem?_eq_getElem hkf⟩
      have hgb : (bs f)[k]'(by rw [Hsz.out]; exact hkf) = b := by
        rw [getElem_bs]
        rw [List.getElem?_eq_getElem hkf] at hbk
        exact Option.some.inj hbk
      have hsn : fillL (f.take (k + 1)) i = fillL (f.take k) i ++ fillC i b := by rw [take_succ_getD hbk, fillL_snoc]
      have hlen : (fillL (f.take k) i).length ≤ 20 * f.length := by
        have := fillL_len i (f.take k)
        rw [List.length_take] at this
        omega
      have HSn := Lib.hid hsn
      have Hlen := Lib.hid hlen
      have i0 : wr.cell? ⟨w.heap.size, 0, none⟩ = some (.int .u16 i.code) := (hB.cell (p := ⟨w.heap.size, 0, none⟩) (by simp)).trans (by simp [go_sem])
      have i1 : wr.cell? ⟨w.heap.size, 1, none⟩ = some (.int .u8 i.jt) := (hB.cell (p := ⟨w.heap.size, 1, none⟩) (by simp)).trans (by simp [go_sem])
      have i2 : wr.cell? ⟨w.heap.size, 2, none⟩ = some (.int .u8 i.jf) := (hB.cell (p := ⟨w.heap.size, 2, none⟩) (by simp)).trans (by simp [go_sem])
      have i3 : wr.cell? ⟨w.heap.size, 3, none⟩ = some (.int .u32 i.k) := (hB.cell (p := ⟨w.heap.size, 3, none⟩) (by simp)).trans (by simp [go_sem])
      have HSr := Lib.hid hSr
      clear hsn hlen hbk hB hSr
      by_cases e67 : b = 67
      · have hfc : fillC i b = dcl i.code := by rw [e67]; rfl
        have Hfc := Lib.hid hfc
        subst e67
        have cn := itoa_any i.code wr (by omega) HT.out
        have Cn := Lib.hid cn
        have j0 : (0 : Int) ≤ (i.code : Int) := by omega
        have j1 : (i.code : Int) ≤ 4294967295 := by omega
        clear hfc cn
        go_wp2_with fail
        refine Cn.out.mono ?_
        rintro e w2 ⟨rfl, hB2⟩
        have HB2 := Lib.hid hB2
        have cw := writeString_any (w.heap.size + 1) (w.heap.size + 1) _ (bs (dcl i.code)) w2 (builder_later Hb.out hB2) (by
          rw [bs_size, Lib.byteCells_length]
          have h1 := Hlen.out
          have h2 := dcl_len i.code
          omega) (by have := hB2.size; have := HSr.out; simp at *; omega)
        have Cw := Lib.hid cw
        clear hB2 cw
        go_wp2_with fail
        refine Cw.out.mono ?_
        rintro e w3 ⟨rfl, hb3, hB3⟩
        have Hb3 := Lib.hid hb3
        have HB3 := Lib.hid hB3
        clear hb3 hB3
        go_wp2_with fail
        go_roundg g
        case measure => omega
        case rel => exact ⟨k + 1, by omega, by go_num, by
            have := Hb3.out
            rw [HSn.out, Hfc.out, Lib.byteCells_append]
            rw [strCells_bs] at this
            exact .inr this, (HB.out.trans (HB2.out.mono (by have := HSr.out; simp at this; omega))).trans HB3.out⟩
      by_cases e84 : b = 84
      · have hfc : fillC i b = dcl i.jt := by rw [e84]; rfl
        have Hfc := Lib.hid hfc
        subst e84
        have cn := itoa_any i.jt wr (by omega) HT.out
        have Cn := Lib.hid cn
        have j0 : (0 : Int) ≤ (i.jt : Int) := by omega
        have j1 : (i.jt : Int) ≤ 4294967295 := by omega
        clear hfc cn
        go_wp2_with fail
        refine Cn.out.mono ?_
        rintro e w2 ⟨rfl, hB2⟩
        have HB2 := Lib.hid hB2
        have cw := writeString_any (w.heap.size + 1) (w.heap.size + 1) _ (bs (dcl i.jt)) w2 (builder_later Hb.out hB2) (by
          rw [bs_size, Lib.byteCells_length]
          have h1 := Hlen.out
          have h2 := dcl_len i.jt
          omega) (by have := hB2.size; have := HSr.out; simp at *; omega)
        have Cw := Lib.hid cw
        clear hB2 cw
        go_wp2_with fail
        refine Cw.out.mono ?_
        rintro e w3 ⟨rfl, hb3, hB3⟩
        have Hb3 := Lib.hid hb3
        have HB3 := Lib.hid hB3
        clear hb3 hB3
        go_wp2_with fail
        go_roundg g
        case measure => omega
        case rel => exact ⟨k + 1, by omega, by go_num, by
            have := Hb3.out
            rw [HSn.out, Hfc.out, Lib.byteCells_append]
            rw [strCells_bs] at this
            exact .inr this, (HB.out.trans (HB2.out.mono (by have := HSr.out; simp at this; omega))).trans HB3.out⟩
      by_cases e70 : b = 70
      · have hfc : fillC i b = dcl i.jf := by rw [e70]; rfl
        have Hfc := Lib.hid hfc
        subst e70
        have cn := itoa_any i.jf wr (by omega) HT.out
        have Cn := Lib.hid cn
        have j0 : (0 : Int) ≤ (i.jf : Int) := by omega
        have j1 : (i.jf : Int) ≤ 4294967295 := by omega
        clear hfc cn
        go_wp2_with fail
        refine Cn.out.mono ?_
        rintro e w2 ⟨rfl, hB2⟩
        have HB2 := Lib.hid hB2
        have cw := writeString_any (w.heap.size + 1) (w.heap.size + 1) _ (bs (dcl i.jf)) w2 (builder_later Hb.out hB2) (by
          rw [bs_size, Lib.byteCells_length]
          have h1 := Hlen.out
          have h2 := dcl_len i.jf
          omega) (by have := hB2.size; have := HSr.out; simp at *; omega)
        have Cw := Lib.hid cw
        clear hB2 cw
        go_wp2_with fail
        refine Cw.out.mono ?_
        rintro e w3 ⟨rfl, hb3, hB3⟩
        have Hb3 := Lib.hid hb3
        have HB3 := Lib.hid hB3
        clear hb3 hB3
        go_wp2_with fail
        go_roundg g
        case measure => omega
        case rel => exact ⟨k + 1, by omega, by go_num, by
            have := Hb3.out
            rw [HSn.out, Hfc.out, Lib.byteCells_append]
            rw [strCells_bs] at this
            exact .inr this, (HB.out.trans (HB2.out.mono (by have := HSr.out; simp at this; omega))).trans HB3.out⟩
      by_cases e75 : b = 75
      · have hfc : fillC i b = dcl i.k := by rw [e75]; rfl
        have Hfc := Lib.hid hfc
        subst e75
        have cn := fmtu_any i.k wr (by omega) HT.out
        have Cn := Lib.hid cn
        have j0 : (0 : Int) ≤ (i.k : Int) := by omega
        have j1 : (i.k : Int) ≤ 4294967295 := by omega
        clear hfc cn
        go_wp2_with fail
        refine Cn.out.mono ?_
        rintro e w2 ⟨rfl, hB2⟩
        have HB2 := Lib.hid hB2
        have cw := writeString_any (w.heap.size + 1) (w.heap.size + 1) _ (bs (dcl i.k)) w2 (builder_later Hb.out hB2) (by
          rw [bs_size, Lib.byteCells_length]
          have h1 := Hlen.out
          have h2 := dcl_len i.k
          omega) (by have := hB2.size; have := HSr.out; simp at *; omega)
        have Cw := Lib.hid cw
        clear hB2 cw
        go_wp2_with fail
        refine Cw.out.mono ?_
        rintro e w3 ⟨rfl, hb3, hB3⟩
        have Hb3 := Lib.hid hb3
        have HB3 := Lib.hid hB3
        clear hb3 hB3
        go_wp2_with fail
        go_roundg g
        case measure => omega
        case rel => exact ⟨k + 1, by omega, by go_num, by
            have := Hb3.out
            rw [HSn.out, Hfc.out, Lib.byteCells_append]
            rw [strCells_bs] at this
            exact .inr this, (HB.out.trans (HB2.out.mono (by have := HSr.out; simp at this; omega))).trans HB3.out⟩
      have hfc : fillC i b = [b] := by
        unfold fillC
        rw [if_neg e67, if_neg e84, if_neg e70, if_neg e75]
      have Hfc := Lib.hid hfc
      have ne : ∀ n : UInt8, b ≠ n → ((b.toNat : Int) == (n.toNat : Int)) = false := fun n h => by
        rw [beq_eq_false_iff_ne]
        intro e
        exact h (UInt8.toNat_inj.1 (by omega))
      have n1 : ((b.toNat : Int) == 67) = false := ne 67 e67
      have n2 : ((b.toNat : Int) == 84) = false := ne 84 e84
      have n3 : ((b.toNat : Int) == 70) = false := ne 70 e70
      have n4 : ((b.toNat : Int) == 75) = false := ne 75 e75
      have cw := writeByte_any (w.heap.size + 1) (w.heap.size + 1) _ (b.toNat : Int) wr Hb.out (by
          rw [Lib.byteCells_length]
          have h1 := Hlen.out
          omega) (by have := HSr.out; simp at this; omega)
      have Cw := Lib.hid cw
      clear hfc ne e67 e84 e70 e75 cw
      go_wp2_with fail
      refine Cw.out.mono ?_
      rintro e w3 ⟨rfl, hb3, hB3⟩
      have Hb3 := Lib.hid hb3
      have HB3 := Lib.hid hB3
      clear hb3 hB3
      go_wp2_with fail
      go_roundg g
      case measure => omega
      case rel => exact ⟨k + 1, by omega, by go_num, by
          have := Hb3.out
          rw [HSn.out, Hfc.out, Lib.byteCells_append]
          exact .inr this, HB.out.trans HB3.out⟩
end Go.Proofs.YtckbcmoanadckaaDoor
