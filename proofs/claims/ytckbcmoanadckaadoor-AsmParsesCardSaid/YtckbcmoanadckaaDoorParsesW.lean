/- riddlelaw3.AsmParses: it answers true. -/
import Derived.Test.YtckbcmoanadckaaDoorParseR
import Derived.Test.YtckbcmoanadckaaDoorInsns
namespace Go.Proofs.YtckbcmoanadckaaDoor
open Go.RowKit Go.Shelf Go.Deep
set_option linter.unusedVariables false
set_option linter.unusedSimpArgs false

theorem parseLs_len : ∀ (l : List (List UInt8)) (n : Nat) (acc : List Ins), acc.length + 1 = n → n ≤ 4097 → (parseLs l n acc).prog.length ≤ 4096
  | [], n, acc, h, h2 => by rw [parseLs_nil]; show acc.length ≤ _; omega
  | x :: l, n, acc, h, h2 => by
    by_cases hm : 4096 < n
    · rw [parseLs_many hm]; simp
    · cases hx : readL (rowsN 256) x with
      | none => rw [parseLs_bad hm _ _ hx]; simp
      | some i =>
        rw [parseLs_good hm _ _ hx]
        exact parseLs_len l _ _ (by rw [List.length_append]; simp; omega) (by omega)
theorem parseL_len (l : List UInt8) : (parseL l).prog.length ≤ 4096 := by
  unfold parseL
  split
  · simp
  · exact parseLs_len _ _ _ rfl (by omega)
theorem own_rs {t : TypeId} {w : World} {base c : Nat} {A : Option Addr} {xs : List Ins} (h : OwnG 4 encN t w base (.slice A xs.length c) xs) : Rs encN w A xs := by
  obtain ⟨A', c', e, hr⟩ := OwnG.rs encN_ok h
  cases e
  exact hr
theorem own_apart {t : TypeId} {w w5 : World} {base : Nat} {v : Value} {xs : List Ins} {row : Option Nat} (h : OwnG 4 encN t w base v xs) (hG : w.grownBy w5 row) (hne : ∀ b, v.ownBlock = some b → row = some b → False) : OwnG 4 encN t w5 base v xs :=
  own_later h fun b e => hG.block b (own_lt h e).2 (fun e2 => hne b e e2.symm)
set_option maxRecDepth 100000 in
set_option maxHeartbeats 3200000 in
theorem parses_law (s : ByteArray) (m : Int) (w : World) (hs : s.size ≤ 140737488351232) (hm : w.cell? ⟨0, 0, none⟩ = some (.int .i64 m)) (ht : Tab10 w) :
    Calls Tryd.prog 5 #[.string s] w fun e w' => e = .returned (.bool true) ∧ Below w.heap.size w w' := by
  have HT := Lib.hid ht
  have Hm := Lib.hid hm
  have aw : ∀ W, Below w.heap.size w W → Calls Tryd.prog 11 #[] W fun e w' => e = .returned (.bool true) ∧ Below W.heap.size W w' := fun W hW => awake_any m W (max_later Hm.out hW) (HT.out.later hW)
  have AW := Lib.hid aw
  have c1 := rparse_any s w (by omega)
  have c2 : ∀ W, Below w.heap.size w W → _ := fun W hW => parse_any s m W (by omega) (max_later Hm.out hW) (HT.out.later hW)
  have hl := parseL_len s.data.toList
  obtain ⟨P, hP⟩ : ∃ P, parseL s.data.toList = P := ⟨_, rfl⟩
  simp only [hP] at c1 c2 hl
  obtain ⟨ps, line, err⟩ := P
  have hl : ps.length ≤ 4096 := hl
  have C1 := Lib.hid c1
  have C2 := Lib.hid c2
  clear aw hm ht hP c1 c2
  go_enter Tryd.func5, Tryd.ntmps5
  go_wp2_with fail
  refine C1.out.mono ?_
  rintro e w1 ⟨v1, rfl, hown1, hB1⟩
  obtain ⟨A1, n1, rfl, hR1⟩ := OwnG.rs encN_ok hown1
  have c2 := C2.out w1 hB1
  have Cp2 := Lib.hid c2
  have HB1 := Lib.hid hB1
  have HO1 := Lib.hid hown1
  clear c2 hB1 hown1 hR1
  go_wp2_with fail
  refine Cp2.out.mono ?_
  rintro e w2 ⟨v2, rfl, hown2, hb2⟩
  have hB2 := HB1.out.trans (hb2.mono HB1.out.size)
  have c3 := C2.out w2 hB2
  have Cp3 := Lib.hid c3
  have HB2 := Lib.hid hB2
  have HO12 := Lib.hid (own_below HO1.out hb2)
  obtain ⟨A2, n2, rfl, hR2⟩ := OwnG.rs encN_ok hown2
  have HO2 := Lib.hid hown2
  have Hs12 := Lib.hid hb2.size
  clear c3 hB2 hown2 hR2 hb2
  go_wp2_with fail
  refine Cp3.out.mono ?_
  rintro e w3 ⟨v3, rfl, hown3, hb3⟩
  have hB3 := HB2.out.trans (hb3.mono HB2.out.size)
  obtain ⟨A3, n3, rfl, hR3⟩ := OwnG.rs encN_ok hown3
  have o1 : OwnG 4 encN 25 w3 w.heap.size (.slice A1 ps.length n1) ps := own_below HO12.out hb3
  have o2 : OwnG 4 encN 25 w3 w1.heap.size (.slice A2 ps.length n2) ps := own_below HO2.out hb3
  have o3 : OwnG 4 encN 25 w3 w2.heap.size (.slice A3 ps.length n3) ps := hown3
  have c4 := same_any A2 A1 n2 n1 ps ps w3 (own_rs o2) (own_rs o1) (by omega) (by omega)
  rw [show decide (ps = ps) = true from decide_eq_true rfl] at c4
  have C4 := Lib.hid c4
  have HB3 := Lib.hid hB3
  have Ho1 := Lib.hid o1
  have Ho2 := Lib.hid o2
  have Ho3 := Lib.hid o3
  clear c4 hB3 hb3 hown3 hR3 o1 o2 o3
  go_wp2_with fail
  refine C4.out.mono ?_
  rintro e w4 ⟨rfl, hb4⟩
  have hB4 := HB3.out.trans (hb4.mono HB3.out.size)
  have o1 : OwnG 4 encN 25 w4 w.heap.size (.slice A1 ps.length n1) ps := own_below Ho1.out hb4
  have o2 : OwnG 4 encN 25 w4 w1.heap.size (.slice A2 ps.length n2) ps := own_below Ho2.out hb4
  have o3 : OwnG 4 encN 25 w4 w2.heap.size (.slice A3 ps.length n3) ps := own_below Ho3.out hb4
  have c5 := spoil_any w1.heap.size A2 ps.length n2 _ w4 o2 (by omega)
  have C5 := Lib.hid c5
  have HB4 := Lib.hid hB4
  clear c5 hB4 hb4 Ho1 Ho2 Ho3
  have Ho1 := Lib.hid o1
  have Ho2 := Lib.hid o2
  have Ho3 := Lib.hid o3
  clear o1 o2 o3
  go_wp2_with fail
  refine C5.out.mono ?_
  rintro e w5 ⟨rfl, hG⟩
  have hB5 : Below w.heap.size w w5 := HB4.out.grown hG HB4.out.size (fun k e => by have := HB1.out.size; have := own_lt Ho2.out e; omega)
  have o1 : OwnG 4 encN 25 w5 w.heap.size (.slice A1 ps.length n1) ps := own_apart Ho1.out hG fun b e1 e2 => by
    have h1 := own_lt HO1.out e1
    have h2 := own_lt Ho2.out e2
    omega
  have o3 : OwnG 4 encN 25 w5 w2.heap.size (.slice A3 ps.length n3) ps := own_apart Ho3.out hG fun b e1 e2 => by
    have h1 := own_lt Ho3.out e1
    have h2 := own_lt HO2.out e2
    omega
  have c6 := same_any A3 A1 n3 n1 ps ps w5 (own_rs o3) (own_rs o1) (by omega) (by omega)
  rw [show decide (ps = ps) = true from decide_eq_true rfl] at c6
  have C6 := Lib.hid c6
  have HB5 := Lib.hid hB5
  clear c6 hB5 hG o1 o3
  go_wp2_with fail
  refine C6.out.mono ?_
  rintro e w6 ⟨rfl, hB6⟩
  have hB6 := HB5.out.trans (hB6.mono HB5.out.size)
  have ca := AW.out w6 hB6
  have Ca := Lib.hid ca
  have HB6 := Lib.hid hB6
  clear ca hB6
  go_wp2_with fail
  refine Ca.out.mono ?_
  rintro e w8 ⟨rfl, hB8⟩
  have HF := Lib.hid (HB6.out.trans (hB8.mono HB6.out.size))
  clear hB8
  go_wp2_with fail
  go_ret
  exact ⟨rfl, HF.out⟩
end Go.Proofs.YtckbcmoanadckaaDoor
