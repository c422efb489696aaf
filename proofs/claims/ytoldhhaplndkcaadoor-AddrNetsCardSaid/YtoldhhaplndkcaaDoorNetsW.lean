/- riddlelaw6.AddrNets: it answers true. -/
import Derived.Test.YtoldhhaplndkcaaDoorAwake
namespace Go.Proofs.YtoldhhaplndkcaaDoor
open Go.RowKit Go.Shelf Go.Deep
set_option linter.unusedVariables false
set_option linter.unusedSimpArgs false

section
variable {α : Type} {k : Nat} {enc : α → List Value} {t : TypeId} {W W' : World} {base : Nat} {v : Value} {xs : List α}
theorem own_past (h : OwnG k enc t W base v xs) {g : Nat} (hg : W.grownBy W' (some g)) (hlt : g < base) : OwnG k enc t W' base v xs :=
  own_later h fun b e => hg.block b (own_lt h e).2 (by have := (own_lt h e).1; intro e2; cases e2; omega)
theorem own_fore (h : OwnG k enc t W base v xs) {top : Nat} (hu : ∀ b, v.ownBlock = some b → b < top) {g : Nat} (hg : W.grownBy W' (some g)) (hlt : top ≤ g) : OwnG k enc t W' base v xs :=
  own_later h fun b e => hg.block b (own_lt h e).2 (by have := hu b e; intro e2; cases e2; omega)
theorem own_bel (h : OwnG k enc t W base v xs) (hB : Below W.heap.size W W') : OwnG k enc t W' base v xs := own_below h hB
theorem own_row (h : OwnG k enc t W base v xs) {row : Option Nat} (hg : W.grownBy W' row) (hne : ∀ b, v.ownBlock = some b → row ≠ some b) : OwnG k enc t W' base v xs :=
  own_later h fun b e => hg.block b (own_lt h e).2 (fun e2 => hne b e e2.symm)
theorem rs_own (E : EncOk k enc) {A : Option Addr} {n c : Nat} (h : OwnG k enc t W base (.slice A n c) xs) : Rs enc W A xs := by
  obtain ⟨A3, c3, e3, hR⟩ := h.rs E
  cases e3
  exact hR
end
set_option maxRecDepth 100000 in
set_option maxHeartbeats 3200000 in
theorem nets_law (A : Option Addr) (cA : Nat) (xs : List UInt8) (B : Option Addr) (cB : Nat) (ys : List UInt8) (bits : Int) (m : Int) (w : World) (hA : Rs encU1 w A xs) (hnA : A = none → cA = 0) (hlA : xs.length ≤ 140737488351232) (hB : Rs encU1 w B ys) (hnB : B = none → cB = 0) (hlB : ys.length ≤ 140737488351232) (hbits : -9223372036854775808 ≤ bits ∧ bits ≤ 9223372036854775807) (hG : Given m w) :
    Calls Tryd.prog 5 #[.slice A xs.length cA, .slice B ys.length cB, .int .i64 bits] w fun e w' => e = .returned (.bool true) ∧ Below w.heap.size w w' := by
  have hRl : (netR xs bits).length ≤ 140737488351232 := by
    unfold netR
    split
    · rw [maskL_len]; exact hlA
    · exact Nat.zero_le _
  obtain ⟨R, hR⟩ : ∃ R, netR xs bits = R := ⟨_, rfl⟩
  obtain ⟨E, hE⟩ : ∃ E, netE xs bits = E := ⟨_, rfl⟩
  have n1 := rnet_any A cA xs bits w hA hlA
  have l2 := fun W (hW : Below w.heap.size w W) => lendU_any A cA xs W (hA.later hW) hlA hnA
  have n3 := fun W g c (h : Rs encU1 W (some ⟨g, 0, none⟩) xs) => net_any (some ⟨g, 0, none⟩) c xs bits W h hlA
  have k4 := fun W base g c (h : OwnG 1 encU1 5 W base (.slice (some ⟨g, 0, none⟩) (xs.length + 3) c) (xs ++ marksU)) (hW : Below w.heap.size w W) => keptU_any base g c A cA xs W h (hA.later hW) hlA
  have c5 := fun W (hW : Below w.heap.size w W) => copyU_any A cA xs W (hA.later hW) (by omega) hnA
  unfold NetEnd at n1 n3
  rw [hR, hE] at n1
  simp only [hR, hE] at n3
  rw [hR] at hRl
  have l8 := fun W (hW : Below w.heap.size w W) => lendU_any B cB ys W (hB.later hW) hlB hnB
  have k9 := fun W base g c (h : OwnG 1 encU1 5 W base (.slice (some ⟨g, 0, none⟩) (ys.length + 3) c) (ys ++ marksU)) (hW : Below w.heap.size w W) => keptU_any base g c B cB ys W h (hB.later hW) hlB
  have i9 := fun W g c g2 c2 (h : Rs encU1 W (some ⟨g, 0, none⟩) xs) (h2 : Rs encU1 W (some ⟨g2, 0, none⟩) ys) => in_any (some ⟨g, 0, none⟩) (some ⟨g2, 0, none⟩) c c2 xs ys bits W h h2 hlA
  have i10 := fun W (hW : Below w.heap.size w W) => rin_any A B cA cB xs ys bits W (hA.later hW) (hB.later hW) hlA hlB
  obtain ⟨⟨ib, ie⟩, hI⟩ : ∃ I, inL xs ys bits = I := ⟨_, rfl⟩
  simp only [hI] at i9 i10
  have aw : ∀ W, Below w.heap.size w W → Calls Tryd.prog 13 #[] W fun e w' => e = .returned (.bool true) ∧ Below W.heap.size W w' := fun W hW => awake_any m W (hG.later hW)
  have N1 := Lib.hid n1
  have L2 := Lib.hid l2
  have N3 := Lib.hid n3
  have K4 := Lib.hid k4
  have C5 := Lib.hid c5
  have L8 := Lib.hid l8
  have K9 := Lib.hid k9
  have I9 := Lib.hid i9
  have I10 := Lib.hid i10
  have AW := Lib.hid aw
  have HRL := Lib.hid hRl
  have g1 : ((E : Int) != (E : Int)) = false := by rw [bne_eq_false_iff_eq]
  have g2 : ((ie : Int) == (ie : Int)) = true := beq_self_eq_true _
  have g3 : (ib == ib) = true := beq_self_eq_true _
  obtain ⟨nx, hnx⟩ : ∃ n, xs.length = n := ⟨_, rfl⟩
  obtain ⟨ny, hny⟩ : ∃ n, ys.length = n := ⟨_, rfl⟩
  rw [hnx] at N1 L2 N3 K4 C5 I9 I10
  rw [hny] at L8 K9 I9 I10
  rw [hnx, hny]
  clear n1 l2 n3 k4 c5 l8 k9 i9 i10 aw hA hB hG hR hE hI hnA hnB hRl hnx hny hlA hlB hbits
  go_enter Tryd.func5, Tryd.ntmps5
  go_wp2_with fail
  (with_reducible refine N1.out.mono ?_)
  rintro e w1 ⟨A1, c1, rfl, ho1, hB1⟩
  have s1 : w.heap.size ≤ w1.heap.size := hB1.size
  have U1 := Lib.hid (fun b e => (own_lt ho1 (b := b) e).2)
  have HO1 := Lib.hid ho1
  have HB1 := Lib.hid hB1
  clear ho1 hB1
  go_wp2_with fail
  (with_reducible refine (L2.out _ HB1.out).mono ?_)
  rintro e w2 ⟨gL, cL, rfl, hoL, hB2⟩
  have s2 : w1.heap.size ≤ w2.heap.size := hB2.size
  have z1 : w1.heap.size ≤ gL := (own_lt hoL rfl).1
  have z2 : gL < w2.heap.size := (own_lt hoL rfl).2
  have HO1 := Lib.hid (own_bel HO1.out hB2)
  have HB2 := Lib.hid (HB1.out.trans (hB2.mono s1))
  have HR := Lib.hid (OwnG.is encU1_ok hoL).take
  have HOL := Lib.hid hoL
  clear hoL hB2
  go_wp2_with fail
  (with_reducible refine (N3.out _ _ _ HR.out).mono ?_)
  rintro e w3 ⟨A3, c3, rfl, ho3, hB3⟩
  have s3 : w2.heap.size ≤ w3.heap.size := hB3.size
  have U3 := Lib.hid (fun b e => (own_lt ho3 (b := b) e).2)
  have HO1 := Lib.hid (own_bel HO1.out hB3)
  have HOL := Lib.hid (own_bel HOL.out hB3)
  have HO3 := Lib.hid ho3
  have HB3 := Lib.hid (HB2.out.trans (hB3.mono (Nat.le_trans s1 s2)))
  clear ho3 hB3
  go_wp2_with fail
  (with_reducible refine (K4.out _ _ _ _ HOL.out HB3.out).mono ?_)
  rintro e w4 ⟨rfl, hg4⟩
  have s4 : w3.heap.size ≤ w4.heap.size := hg4.size
  have HO1 := Lib.hid (own_fore HO1.out U1.out hg4 z1)
  have HO3 := Lib.hid (own_past HO3.out hg4 z2)
  have HB4 := Lib.hid (HB3.out.grown hg4 HB3.out.size (fun k e => by cases e; omega))
  clear hg4
  go_wp2_with fail
  (with_reducible refine (C5.out _ HB4.out).mono ?_)
  rintro e w5 ⟨g5, c5, rfl, ho5, hB5⟩
  have s5 : w4.heap.size ≤ w5.heap.size := hB5.size
  have HO1 := Lib.hid (own_bel HO1.out hB5)
  have HO3 := Lib.hid (own_bel HO3.out hB5)
  have HB5 := Lib.hid (HB4.out.trans (hB5.mono HB4.out.size))
  have HR5 := Lib.hid (OwnG.is encU1_ok ho5)
  clear ho5 hB5
  go_wp2_with fail
  (with_reducible refine (N3.out _ _ _ HR5.out).mono ?_)
  rintro e w6 ⟨A6, c6, rfl, ho6, hB6⟩
  have s6 : w5.heap.size ≤ w6.heap.size := hB6.size
  have HO1 := Lib.hid (own_bel HO1.out hB6)
  have HO3 := Lib.hid (own_bel HO3.out hB6)
  have HO6 := Lib.hid ho6
  have HB6 := Lib.hid (HB5.out.trans (hB6.mono HB5.out.size))
  have C7 := Lib.hid (sameU_yes A3 A1 c3 c1 R w6 (rs_own encU1_ok HO3.out) (rs_own encU1_ok HO1.out) (by have := HRL.out; omega))
  clear ho6 hB6
  go_wp2_with fail
  (with_reducible refine C7.out.mono ?_)
  rintro e w7 ⟨rfl, hB7⟩
  have s7 : w6.heap.size ≤ w7.heap.size := hB7.size
  have HO1 := Lib.hid (own_bel HO1.out hB7)
  have HO3 := Lib.hid (own_bel HO3.out hB7)
  have HO6 := Lib.hid (own_bel HO6.out hB7)
  have HB7 := Lib.hid (HB6.out.trans (hB7.mono HB6.out.size))
  have C8 := Lib.hid (spoilU_any w2.heap.size A3 R.length c3 _ w7 HO3.out (by have := HRL.out; omega))
  clear hB7
  go_wp2_with fail
  (with_reducible refine C8.out.mono ?_)
  rintro e w8 ⟨rfl, hg8⟩
  have s8 : w7.heap.size ≤ w8.heap.size := hg8.size
  have HO1 := Lib.hid (own_row HO1.out hg8 (fun b e e2 => by have := U1.out b e; have := (own_lt HO3.out e2).1; omega))
  have HO6 := Lib.hid (own_row HO6.out hg8 (fun b e e2 => by have := (own_lt HO6.out e).1; have := U3.out b e2; omega))
  have HB8 := Lib.hid (HB7.out.grown hg8 HB7.out.size (fun k e => by have := (own_lt HO3.out e).1; omega))
  clear hg8
  go_wp2_with fail
  (with_reducible refine (L2.out _ HB8.out).mono ?_)
  rintro e w9 ⟨gM, cM, rfl, hoM, hB9⟩
  have s9 : w8.heap.size ≤ w9.heap.size := hB9.size
  have y1 : w8.heap.size ≤ gM := (own_lt hoM rfl).1
  have y2 : gM < w9.heap.size := (own_lt hoM rfl).2
  have HO1 := Lib.hid (own_bel HO1.out hB9)
  have HO6 := Lib.hid (own_bel HO6.out hB9)
  have HOM := Lib.hid hoM
  have U6 := Lib.hid (fun b e => (own_lt HO6.out (b := b) e).2)
  have HB9 := Lib.hid (HB8.out.trans (hB9.mono HB8.out.size))
  clear hoM hB9
  go_wp2_with fail
  (with_reducible refine (L8.out _ HB9.out).mono ?_)
  rintro e w10 ⟨gN, cN, rfl, hoN, hB10⟩
  have s10 : w9.heap.size ≤ w10.heap.size := hB10.size
  have x1 : w9.heap.size ≤ gN := (own_lt hoN rfl).1
  have HO1 := Lib.hid (own_bel HO1.out hB10)
  have HO6 := Lib.hid (own_bel HO6.out hB10)
  have HOM := Lib.hid (own_bel HOM.out hB10)
  have HON := Lib.hid hoN
  have HB10 := Lib.hid (HB9.out.trans (hB10.mono HB9.out.size))
  have HRM := Lib.hid (OwnG.is encU1_ok HOM.out).take
  have HRN := Lib.hid (OwnG.is encU1_ok hoN).take
  clear hoN hB10
  go_wp2_with fail
  (with_reducible refine (I9.out _ _ _ _ _ HRM.out HRN.out).mono ?_)
  rintro e w11 ⟨rfl, hB11⟩
  have s11 : w10.heap.size ≤ w11.heap.size := hB11.size
  have HO1 := Lib.hid (own_bel HO1.out hB11)
  have HO6 := Lib.hid (own_bel HO6.out hB11)
  have HOM := Lib.hid (own_bel HOM.out hB11)
  have HON := Lib.hid (own_bel HON.out hB11)
  have HB11 := Lib.hid (HB10.out.trans (hB11.mono HB10.out.size))
  clear hB11
  go_wp2_with fail
  (with_reducible refine (I10.out _ HB11.out).mono ?_)
  rintro e w12 ⟨rfl, hB12⟩
  have s12 : w11.heap.size ≤ w12.heap.size := hB12.size
  have HO1 := Lib.hid (own_bel HO1.out hB12)
  have HO6 := Lib.hid (own_bel HO6.out hB12)
  have HOM := Lib.hid (own_bel HOM.out hB12)
  have HON := Lib.hid (own_bel HON.out hB12)
  have HB12 := Lib.hid (HB11.out.trans (hB12.mono HB11.out.size))
  have C13 := Lib.hid (sameU_yes A6 A1 c6 c1 R w12 (rs_own encU1_ok HO6.out) (rs_own encU1_ok HO1.out) (by have := HRL.out; omega))
  clear hB12
  go_wp2_with fail
  (with_reducible refine C13.out.mono ?_)
  rintro e w13 ⟨rfl, hB13⟩
  have s13 : w12.heap.size ≤ w13.heap.size := hB13.size
  have HOM := Lib.hid (own_bel HOM.out hB13)
  have HON := Lib.hid (own_bel HON.out hB13)
  have HB13 := Lib.hid (HB12.out.trans (hB13.mono HB12.out.size))
  clear hB13
  go_wp2_with fail
  (with_reducible refine (K4.out _ _ _ _ HOM.out HB13.out).mono ?_)
  rintro e w14 ⟨rfl, hg14⟩
  have HON := Lib.hid (own_past HON.out hg14 y2)
  have HB14 := Lib.hid (HB13.out.grown hg14 HB13.out.size (fun k e => by cases e; omega))
  clear hg14
  go_wp2_with fail
  (with_reducible refine (K9.out _ _ _ _ HON.out HB14.out).mono ?_)
  rintro e w15 ⟨rfl, hg15⟩
  have HB15 := Lib.hid (HB14.out.grown hg15 HB14.out.size (fun k e => by cases e; omega))
  clear hg15
  go_wp2_with fail
  (with_reducible refine (AW.out _ HB15.out).mono ?_)
  rintro e w16 ⟨rfl, hB16⟩
  have HB16 := Lib.hid (HB15.out.trans (hB16.mono HB15.out.size))
  clear hB16
  go_wp2_with fail
  go_ret
  exact ⟨rfl, HB16.out⟩
end Go.Proofs.YtoldhhaplndkcaaDoor
