/- riddlelaw3.AsmBack: it answers true. -/
import Derived.Test.YtckbcmoanadckaaDoorBackL
import Derived.Test.YtckbcmoanadckaaDoorInsns
namespace Go.Proofs.YtckbcmoanadckaaDoor
open Go.RowKit Go.Shelf Go.Deep
set_option linter.unusedVariables false
set_option linter.unusedSimpArgs false

theorem print_small {ps : List Ins} (h : ps.length ≤ 300) : printT ps = printL ps ∧ printE ps = 0 := by
  unfold printT printE
  rw [if_neg (by omega), if_neg (by omega)]
  exact ⟨rfl, rfl⟩
set_option maxRecDepth 100000 in
set_option maxHeartbeats 3200000 in
theorem back_law (A : Option Addr) (c : Nat) (ns : List Ins) (m : Int) (w : World) (hA : Rs encN w A ns) (ho : ∀ i ∈ ns, InsOk i) (hn : A = none → c = 0) (hc : ns.length ≤ c) (hr : c * 8 ≤ 140737488351232) (hm : w.cell? ⟨0, 0, none⟩ = some (.int .i64 m)) (ht : Tab10 w) :
    Calls Tryd.prog 6 #[.slice A ns.length c] w fun e w' => e = .returned (.bool true) ∧ Below w.heap.size w w' := by
  have HT := Lib.hid ht
  have Hm := Lib.hid hm
  have HA := Lib.hid hA
  have Ho := Lib.hid ho
  have aw : ∀ W, Below w.heap.size w W → Calls Tryd.prog 11 #[] W fun e w' => e = .returned (.bool true) ∧ Below W.heap.size W w' := fun W hW => awake_any m W (max_later Hm.out hW) (HT.out.later hW)
  have AW := Lib.hid aw
  clear aw
  by_cases hbig : 300 < ns.length
  · have b1 : (ns.length : Int) > 300 := by omega
    have ca := AW.out w (Below.refl _ _)
    have Ca := Lib.hid ca
    clear ca hbig hA ho hn hc hr hm ht
    go_enter Tryd.func6, Tryd.ntmps6
    go_wp2_with fail
    refine Ca.out.mono ?_
    rintro e w2 ⟨rfl, hB⟩
    have HB := Lib.hid hB
    clear hB
    go_wp2_with fail
    go_ret
    exact ⟨rfl, HB.out⟩
  · have b1 : ¬ (ns.length : Int) > 300 := by omega
    have hl : ns.length ≤ 300 := by omega
    have cc := copy_any A c ns w hA (by omega) hn
    have Cc := Lib.hid cc
    have Hl := Lib.hid hl
    obtain ⟨hp1, hp2⟩ := print_small hl
    have HP1 := Lib.hid hp1
    have HP2 := Lib.hid hp2
    have HPP := Lib.hid (parse_print ho hl)
    have hpl := printL_len ns
    have hpl9 : (printL ns).length ≤ 600300 := by
      have : 2001 * ns.length ≤ 2001 * 300 := Nat.mul_le_mul_left _ hl
      omega
    obtain ⟨T, hT⟩ : ∃ T, bs (printL ns) = T := ⟨_, rfl⟩
    have hTs : T.size = (printL ns).length := by rw [← hT, bs_size]
    have HTT := Lib.hid hT
    have HTs := Lib.hid hTs
    have hT9 : T.size ≤ 600300 := by omega
    have n9 : (ns.length : Int) ≤ 300 := by omega
    clear cc hbig hA ho hn hc hr hm ht hp1 hp2 hpl hpl9 hT hTs
    go_enter Tryd.func6, Tryd.ntmps6
    go_wp2_with fail
    refine Cc.out.mono ?_
    rintro e w1 ⟨g, c2, rfl, hown1, hB1⟩
    have cp := print_any (some ⟨g, 0, none⟩) c2 ns w1 (OwnG.is encN_ok hown1) Ho.out (HT.out.later hB1) (by omega)
    rw [HP1.out, HP2.out, HTT.out] at cp
    have Cp := Lib.hid cp
    have HB1 := Lib.hid hB1
    clear cp hown1 hB1
    go_wp2_with fail
    refine Cp.out.mono ?_
    rintro e w2 ⟨rfl, hB2⟩
    have hB2 := HB1.out.trans (hB2.mono HB1.out.size)
    have cr := parse_any T m w2 (by omega) (max_later Hm.out hB2) (HT.out.later hB2)
    rw [← HTT.out, bs_list, HPP.out, HTT.out] at cr
    have Cr := Lib.hid cr
    have HB2 := Lib.hid hB2
    clear cr hB2
    go_wp2_with fail
    refine Cr.out.mono ?_
    rintro e w3 ⟨v, rfl, hown3, hB3⟩
    have hB3 := HB2.out.trans (hB3.mono HB2.out.size)
    obtain ⟨A3, c3, rfl, hR3⟩ := OwnG.rs encN_ok hown3
    have cs := same_any A3 A c3 c ns ns w3 hR3 ((HA.out).later hB3) (by omega) (by omega)
    rw [show decide (ns = ns) = true from decide_eq_true rfl] at cs
    have Cs := Lib.hid cs
    have HB3 := Lib.hid hB3
    clear cs hB3 hown3 hR3
    go_wp2_with fail
    refine Cs.out.mono ?_
    rintro e w4 ⟨rfl, hB4⟩
    have hB4 := HB3.out.trans (hB4.mono HB3.out.size)
    by_cases h0 : ns = []
    · have z1 : ¬ (ns.length : Int) > 0 := by rw [h0]; simp
      have HB5 := Lib.hid hB4
      clear hB4 h0
      go_wp2_with fail
      go_loopg [8, 9] ns.length (fun g s8 s9 wr => ∃ (k : Nat) (S : ByteArray), k + g = ns.length ∧ s8 = .string S ∧ s9 = .int .i64 k ∧ Aside (S = bs (printL (ns.take k))) ∧ Below w.heap.size w wr)
      case atStart => exact ⟨0, ⟨#[]⟩, by omega, rfl, rfl, by
          show _ = _
          rfl, HB5.out⟩
      case round =>
        obtain ⟨k, S, hk, rfl, rfl, hS, hB⟩ := hrel
        have HB := Lib.hid hB
        have k0 : (0 : Int) ≤ (k : Int) := by omega
        clear hB
        cases gk with
        | zero =>
          have k1 : ¬ (k : Int) < (ns.length : Int) := by omega
          have hST : S = T := by rw [hS.out, List.take_of_length_le (by omega), HTT.out]
          subst hST
          have ca := AW.out wr HB.out
          have Ca := Lib.hid ca
          clear ca hS
          go_wp2_with fail
          refine Ca.out.mono ?_
          rintro e w8 ⟨rfl, hB8⟩
          have HF := Lib.hid (HB.out.trans (hB8.mono HB.out.size))
          clear hB8
          go_wp2_with fail
          go_ret
          exact ⟨rfl, HF.out⟩
        | succ g2 => exact absurd z1 (by omega)
    · have hpos : 0 < ns.length := List.length_pos_iff.2 h0
      have z1 : (ns.length : Int) > 0 := by omega
      have hTp : 0 < T.size := by
        rw [HTs.out]
        obtain ⟨qs, i, _, h⟩ := printL_last h0
        rw [h, List.length_append]
        simp
      obtain ⟨q, hq⟩ : ∃ q, T.size - 1 = q := ⟨_, rfl⟩
      have hw1 : IntKind.i64.wrap ((T.size : Int) - 1) = (q : Int) := by
        rw [show ((T.size : Int) - 1) = (q : Int) from by omega]
        exact IntWalk.i64_in _ (by omega)
      have q0 : (0 : Int) ≤ (q : Int) := by omega
      have q1 : (q : Int) ≤ (T.size : Int) := by omega
      have HPS := parse_short Ho.out Hl.out h0
      have hex : (T.extract 0 q).data.toList = (printL ns).take ((printL ns).length - 1) := by
        rw [extract_list, List.drop_zero, ← hq, HTs.out, ← HTT.out, bs_list]
        rfl
      have cr := parse_any (T.extract 0 q) m w4 (by rw [ByteArray.size_extract]; omega) (max_later Hm.out hB4) (HT.out.later hB4)
      rw [hex, HPS] at cr
      have Cr2 := Lib.hid cr
      have HB4 := Lib.hid hB4
      clear hB4 cr hex HPS hq hTp hpos h0
      go_wp2_with fail
      refine Cr2.out.mono ?_
      rintro e w5 ⟨v, rfl, hown5, hB5⟩
      have hB5 := HB4.out.trans (hB5.mono HB4.out.size)
      obtain ⟨A5, c5, rfl, hR5⟩ := OwnG.rs encN_ok hown5
      have cs := same_any A5 A c5 c ns ns w5 hR5 ((HA.out).later hB5) (by omega) (by omega)
      rw [show decide (ns = ns) = true from decide_eq_true rfl] at cs
      have Cs5 := Lib.hid cs
      have HB5 := Lib.hid hB5
      clear cs hB5 hown5 hR5
      go_wp2_with fail
      refine Cs5.out.mono ?_
      rintro e w6 ⟨rfl, hB6⟩
      have HB6 := Lib.hid (HB5.out.trans (hB6.mono HB5.out.size))
      clear hB6
      go_wp2_with fail
      go_loopg [8, 9] ns.length (fun g s8 s9 wr => ∃ (k : Nat) (S : ByteArray), k + g = ns.length ∧ s8 = .string S ∧ s9 = .int .i64 k ∧ Aside (S = bs (printL (ns.take k))) ∧ Below w.heap.size w wr)
      case atStart => exact ⟨0, ⟨#[]⟩, by omega, rfl, rfl, by
          show _ = _
          rfl, HB6.out⟩
      case round =>
        obtain ⟨k, S, hk, rfl, rfl, hS, hB⟩ := hrel
        have HB := Lib.hid hB
        have k0 : (0 : Int) ≤ (k : Int) := by omega
        clear hB
        cases gk with
        | zero =>
          have k1 : ¬ (k : Int) < (ns.length : Int) := by omega
          have hST : S = T := by rw [hS.out, List.take_of_length_le (by omega), HTT.out]
          subst hST
          have ca := AW.out wr HB.out
          have Ca := Lib.hid ca
          clear ca hS
          go_wp2_with fail
          refine Ca.out.mono ?_
          rintro e w8 ⟨rfl, hB8⟩
          have HF := Lib.hid (HB.out.trans (hB8.mono HB.out.size))
          clear hB8
          go_wp2_with fail
          go_ret
          exact ⟨rfl, HF.out⟩
        | succ g2 =>
          have k1 : (k : Int) < (ns.length : Int) := by omega
          have hkl : k < ns.length := by omega
          obtain ⟨b, o, rfl, -⟩ := HA.out (by omega)
          obtain ⟨x, hx⟩ : ∃ x, ns[k]? = some x := ⟨_, List.getElem?_eq_getElem hkl⟩
          obtain ⟨q0, q1, q2, q3⟩ := insn_cells (HA.out.later HB.out) hx
          have hxo := Ho.out x (List.mem_of_getElem? hx)
          have cl := line_any x wr hxo (HT.out.later HB.out)
          have Cl := Lib.hid cl
          have hlen : (printL (ns.take k)).length ≤ 600300 := by
            have := printL_len (ns.take k)
            rw [List.length_take] at this
            have h2 : 2001 * min k ns.length ≤ 2001 * 300 := Nat.mul_le_mul_left _ (by omega)
            omega
          have hll := lineL_len x
          obtain ⟨E1, hE1⟩ : ∃ E, printL (ns.take k) ++ lineL x = E := ⟨_, rfl⟩
          obtain ⟨E2, hE2⟩ : ∃ E, E1 ++ [10] = E := ⟨_, rfl⟩
          have hE1l : E1.length ≤ 602300 := by rw [← hE1, List.length_append]; omega
          have a1 : ∀ W, (Op.stringOp .add S (bs (lineL x))).run Tryd.prog W = .ok (.string (bs E1)) W := fun W => by rw [hS.out]; exact add_two _ _ _ (by omega) hE1 W
          have a2 : ∀ W, (Op.stringOp .add (bs E1) ⟨#[10]⟩).run Tryd.prog W = .ok (.string (bs E2)) W := fun W => add_two E1 [10] _ (by simp only [List.length_cons, List.length_nil]; omega) hE2 W
          have hfin : bs E2 = bs (printL (ns.take (k + 1))) := by rw [take_succ_getD hx, printL_snoc, ← hE2, ← hE1]
          have HFin := Lib.hid hfin
          obtain ⟨LL, hLL⟩ : ∃ L, bs (lineL x) = L := ⟨_, rfl⟩
          rw [hLL] at a1
          have Cl2 := Lib.hid (show Calls Tryd.prog 9 #[.agg #[.int .u16 x.code, .int .u8 x.jt, .int .u8 x.jf, .int .u32 x.k]] wr fun e w' => e = .returned (.string LL) ∧ Below wr.heap.size wr w' from by
            have h := Cl.out
            rw [hLL] at h
            exact h)
          clear Cl cl hlen hll hE1 hE2 hE1l hfin hLL hx hxo hkl hS
          go_wp2_with fail
          refine Cl2.out.mono ?_
          rintro e w8 ⟨rfl, hB8⟩
          have HB8 := Lib.hid (HB.out.trans (hB8.mono HB.out.size))
          clear hB8
          go_wp2_with fail
          go_roundg g2
          case measure => omega
          case rel => exact ⟨k + 1, bs E2, by omega, rfl, by go_num, HFin.out, HB8.out⟩
end Go.Proofs.YtckbcmoanadckaaDoor
