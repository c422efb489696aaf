/- riddlelaw6.AddrIn: it answers true. -/
import Derived.Test.YtoldhhaplndkcaaDoorAwake
import Derived.Test.YtoldhhaplndkcaaDoorInL
import Derived.RegionTactic
import Derived.ChangeAlike
namespace Go.Proofs.YtoldhhaplndkcaaDoor
open Go.RowKit Go.Shelf Go.Deep
set_option linter.unusedVariables false
set_option linter.unusedSimpArgs false

theorem arr_rs {t : TypeId} {W : World} {b : Nat} {P : List Nat} (h : ArrAt t W b P) (hx : ∀ x ∈ P, x < 256) (n : Nat) : Rs encU1 W (some ⟨b, 0, none⟩) ((P.map UInt8.ofNat).take n) := fun _ => by
  refine ⟨b, 0, rfl, fun j u hu => ?_⟩
  rw [flat_nat] at hu
  unfold natsU at hu
  rw [List.map_map, List.getElem?_map, List.getElem?_take] at hu
  split at hu
  · rw [List.getElem?_map] at hu
    cases hp : P[j]? with
    | none => rw [hp] at hu; cases hu
    | some p =>
      rw [hp] at hu
      have hp9 := hx p (List.mem_of_getElem? hp)
      have e : (UInt8.ofNat p).toNat = p := by rw [UInt8.toNat_ofNat']; exact Nat.mod_eq_of_lt hp9
      have h2 := h.cell hp
      rw [Nat.zero_add, h2, ← hu]
      show some (Value.int .u8 (p : Int)) = some (Value.int .u8 (((UInt8.ofNat p).toNat : Nat) : Int))
      rw [e]
  · cases hu
set_option maxRecDepth 100000 in
set_option maxHeartbeats 3200000 in
theorem in_law (gs : List Nat) (at_ : Int) (four : Bool) (m : Int) (w : World) (h8 : gs.length = 8) (hg : ∀ g ∈ gs, g < 65536) (hat : -9223372036854775808 ≤ at_ ∧ at_ ≤ 9223372036854775807) (hG : Given m w) :
    Calls Tryd.prog 8 #[agg16 (bytesG gs), .int .i64 at_, .bool four] w fun e w' => e = .returned (.bool true) ∧ Below w.heap.size w w' := by
  have hx256 := bytes_lt hg
  have pl : (bytesG gs).length = 16 := by rw [bytesG_len]; omega
  obtain ⟨P, hP⟩ : ∃ P, bytesG gs = P := ⟨_, rfl⟩
  rw [hP] at hx256 pl ⊢
  have hA0 : ArrAt T16 (w.alloc (.cells (a16 P) T16)) w.heap.size P := ArrAt.new T16 w P
  have hB0 : Below w.heap.size w (w.alloc (.cells (a16 P) T16)) := (Below.refl _ w).alloc (Nat.le_refl _) _
  have aw : ∀ W, Below w.heap.size w W → Calls Tryd.prog 13 #[] W fun e w' => e = .returned (.bool true) ∧ Below W.heap.size W w' := fun W hW => awake_any m W (hG.later hW)
  obtain ⟨L, hL⟩ : ∃ L, (if four then 4 else 16) = L := ⟨_, rfl⟩
  have h4 : L = 4 ∨ L = 16 := by rw [← hL]; cases four <;> simp
  have hrs := fun W (h : ArrAt T16 W w.heap.size P) => arr_rs h hx256 L
  have hlx : ((P.map UInt8.ofNat).take L).length = L := by rw [List.length_take, List.length_map, pl]; omega
  obtain ⟨xs, hxs⟩ : ∃ xs, (P.map UInt8.ofNat).take L = xs := ⟨_, rfl⟩
  simp only [hxs] at hrs
  rw [hxs] at hlx
  have HA0 := Lib.hid hA0
  have HB0 := Lib.hid hB0
  have AW := Lib.hid aw
  have HL := Lib.hid hL
  have H4 := Lib.hid h4
  have RS := Lib.hid hrs
  have LX := Lib.hid hlx
  have l4 : 4 ≤ L := by omega
  have l16 : L ≤ 16 := by omega
  clear hx256 pl hP hA0 hB0 aw hL h4 hrs hlx hxs hG h8 hg
  go_enter Tryd.func8, Tryd.ntmps8
  go_upto_if 21 with fail
  go_cut [7] (fun s7 W => s7 = .slice (some ⟨w.heap.size, 0, none⟩) L 16 ∧ w.alloc (.cells (a16 P) T16) = W)
  case first =>
    cases four with
    | false =>
      have e := HL.out
      simp at e
      subst e
      go_wp2_with fail
      go_meet
      exact ⟨rfl, rfl⟩
    | true =>
      have e := HL.out
      simp at e
      subst e
      go_wp2_with fail
      go_meet
      exact ⟨rfl, rfl⟩
  case rest =>
    obtain ⟨rfl, rfl⟩ := hcut
    have hlow := low_nonneg at_
    have c1 := fun W => low_any at_ W
    obtain ⟨y, hy⟩ : ∃ y, Go.bits .and .i64 at_ 9223372036854775807 = y := ⟨_, rfl⟩
    rw [hy] at hlow c1
    have hm0 : 0 ≤ y % (8 * (L : Int)) := Int.emod_nonneg _ (by omega)
    have hm1 : y % (8 * (L : Int)) < 8 * (L : Int) := Int.emod_lt_of_pos _ (by omega)
    obtain ⟨k, hk⟩ : ∃ k : Nat, y % (8 * (L : Int)) = (k : Int) := ⟨(y % (8 * (L : Int))).toNat, by omega⟩
    rw [hk] at hm1
    have hkL : k < 8 * L := by omega
    obtain ⟨i, hi⟩ : ∃ i, k / 8 = i := ⟨_, rfl⟩
    obtain ⟨j, hj⟩ : ∃ j, k % 8 = j := ⟨_, rfl⟩
    have q1 : (k : Int) / 8 = (i : Int) := by omega
    have q2 : (k : Int) % 8 = (j : Int) := by omega
    have q3 : (k : Int).tdiv 8 = (i : Int) := by rw [Int.tdiv_eq_ediv_of_nonneg (by omega)]; exact q1
    have q4 : (k : Int).tmod 8 = (j : Int) := by rw [Int.tmod_eq_emod_of_nonneg (by omega)]; exact q2
    have i0 : (0 : Int) ≤ (i : Int) := by omega
    have i1 : (i : Int) < (L : Int) := by omega
    have j0 : (0 : Int) ≤ (j : Int) := by omega
    have j8 : j < 8 := by omega
    have k0 : (0 : Int) ≤ (k : Int) := by omega
    obtain ⟨x, hx⟩ : ∃ x, xs[i]? = some x := ⟨_, List.getElem?_eq_getElem (by rw [LX.out]; omega)⟩
    have HX := Lib.hid hx
    have HIJ := Lib.hid (And.intro hi hj)
    have cc := fun (W : World) (A : Option Addr) (c : Nat) (h : Rs encU1 W A xs) (hn : A = none → c = 0) => copyU_any A c xs W h (by rw [LX.out]; omega) hn
    simp only [LX.out] at cc
    have C1 := Lib.hid c1
    have CC := Lib.hid cc
    have l0 : (0 : Int) < 8 * (L : Int) := by omega
    clear hm0 c1 cc hx hi hj hy
    go_wp2_with fail
    (with_reducible refine (C1.out _).mono ?_)
    rintro e w1 ⟨rfl, rfl⟩
    go_wp2_with fail
    (with_reducible refine (CC.out _ _ _ (RS.out _ HA0.out) (fun e => by cases e)).mono ?_)
    rintro e w2 ⟨gc, cc, rfl, ho, hB⟩
    have gcl := (own_lt ho rfl).1
    have gcu := (own_lt ho rfl).2
    have hc0 := ownU_cell ho HX.out
    have hf0 := ownU_frozen ho i
    have hox := ownU_set ho LX.out.symm i (xorB x j)
    have hbx := bits_xor x j8
    have HO := Lib.hid hox
    have HB2 := Lib.hid (HB0.out.trans (hB.mono HB0.out.size))
    have HA2 := Lib.hid (HA0.out.later hB)
    have hzw : w.heap.size < w2.heap.size := HA2.out.lt
    have hne : w.heap.size ≠ gc := by simp at gcl; omega
    clear ho hox hB gcl
    go_wp2_with fail
    go_region
    have HAc := Lib.hid (show ArrAt T16 (w2.setCell ⟨gc, i, none⟩ (.int .u8 ((xorB x j).toNat : Int))).drew w.heap.size P from HA2.out.other _ hne)
    have HOc := Lib.hid (show OwnG 1 encU1 5 (w2.setCell ⟨gc, i, none⟩ (.int .u8 ((xorB x j).toNat : Int))).drew _ (.slice (some ⟨gc, 0, none⟩) L cc) (xs.set i (xorB x j)) from HO.out)
    have HBc := Lib.hid (HB2.out.setCell (p := ⟨gc, i, none⟩) (by show w.heap.size ≤ gc; have := (own_lt HO.out rfl).1; simp at this; omega) (.int .u8 ((xorB x j).toNat : Int))).drew
    clear hc0 hf0 hbx hne
    go_wp2_with fail
    go_loopg [10] (8 * L + 1) (fun q s10 wr => ∃ n : Nat, n + q = 8 * L + 1 ∧ s10 = .int .i64 n ∧ ArrAt T16 wr w.heap.size P ∧ Rs encU1 wr (some ⟨gc, 0, none⟩) (xs.set i (xorB x j)) ∧ Below w.heap.size w wr)
    case atStart => exact ⟨0, by omega, rfl, HAc.out, OwnG.is encU1_ok HOc.out, HBc.out⟩
    case round =>
      obtain ⟨n, hn, rfl, hAr, hRc, hBr⟩ := hrel
      have HAr := Lib.hid hAr
      have HRc := Lib.hid hRc
      have HBr := Lib.hid hBr
      have n0 : (0 : Int) ≤ (n : Int) := by omega
      clear hAr hRc hBr HAc HOc HBc
      cases gk with
      | zero =>
        have n1 : ¬ (n : Int) ≤ 8 * (L : Int) := by omega
        clear hn
        go_wp2_with fail
        (with_reducible refine (AW.out _ HBr.out).mono ?_)
        rintro e w5 ⟨rfl, hB5⟩
        have HF := Lib.hid (HBr.out.trans (hB5.mono HBr.out.size))
        clear hB5
        go_wp2_with fail
        go_ret
        exact ⟨rfl, HF.out⟩
      | succ q =>
        have n1 : (n : Int) ≤ 8 * (L : Int) := by omega
        have h4x : xs.length = 4 ∨ xs.length = 16 := by rw [LX.out]; exact H4.out
        have hE : netE xs (n : Int) = 0 := netE_zero h4x n0 (by rw [LX.out]; exact n1)
        have lN : (maskL (n : Int) xs).length = L := by rw [maskL_len, LX.out]
        obtain ⟨hi, hj⟩ := HIJ.out
        have r1 := in_net h4x n0 (by rw [LX.out]; exact n1)
        have r2 := in_flip (k := k) h4x n0 (by rw [LX.out]; exact n1) (by rw [hi]; exact HX.out)
        rw [hi, hj] at r2
        have hN1 := maskL_get (n : Int) xs i
        rw [HX.out] at hN1
        have r3 := fun hk => in_bad (k := k) h4x n0 (by rw [LX.out]; exact n1) (by rw [hi]; exact HX.out) hk
        rw [hi, hj] at r3
        obtain ⟨z, hz⟩ : ∃ z, keepB8 ((n : Int) - 8 * (i : Int)) x = z := ⟨_, rfl⟩
        have hN2 : (maskL (n : Int) xs)[i]? = some z := by rw [hN1, ← hz]; rfl
        rw [hz] at r3
        have lF : (xs.set i (xorB x j)).length = L := by rw [List.length_set, LX.out]
        have nt := fun (W : World) (A : Option Addr) (c : Nat) (h : Rs encU1 W A xs) => net_yes A c xs (n : Int) W L h LX.out hE
        obtain ⟨N, hN⟩ : ∃ N, maskL (n : Int) xs = N := ⟨_, rfl⟩
        simp only [hN] at nt r1 r2 r3 lN hN2
        obtain ⟨F, hF⟩ : ∃ F, xs.set i (xorB x j) = F := ⟨_, rfl⟩
        rw [hF] at r2 lF HRc
        have HFe := Lib.hid hF
        have ccn := fun (W : World) (A : Option Addr) (c : Nat) (h : Rs encU1 W A N) (hn : A = none → c = 0) => copyU_any A c N W h (by rw [lN]; omega) hn
        have ccf := fun (W : World) (A : Option Addr) (c : Nat) (h : Rs encU1 W A F) (hn : A = none → c = 0) => copyU_any A c F W h (by rw [lF]; omega) hn
        have in1 := fun (W : World) (A B : Option Addr) (c d : Nat) (h : Rs encU1 W A xs) (h2 : Rs encU1 W B N) => in_any A B c d xs N (n : Int) W h h2 (by rw [LX.out]; omega)
        have in2 := fun (W : World) (A B : Option Addr) (c d : Nat) (h : Rs encU1 W A F) (h2 : Rs encU1 W B N) => in_any A B c d F N (n : Int) W h h2 (by rw [lF]; omega)
        have in3 := fun (W : World) (A B : Option Addr) (c d : Nat) (h : Rs encU1 W A xs) (h2 : Rs encU1 W B (N.set i (orB z j))) => in_any A B c d xs (N.set i (orB z j)) (n : Int) W h h2 (by rw [LX.out]; omega)
        simp only [r1, LX.out, lN] at in1
        simp only [r2, lF, lN] at in2
        simp only [LX.out, List.length_set, lN] at in3
        simp only [lN] at ccn
        simp only [lF] at ccf
        have NT := Lib.hid nt
        have CN := Lib.hid ccn
        have CF := Lib.hid ccf
        have I1 := Lib.hid in1
        have I2 := Lib.hid in2
        have I3 := Lib.hid in3
        have R3 := Lib.hid r3
        have HN2 := Lib.hid hN2
        have LN := Lib.hid lN
        have Hn := Lib.hid hn
        clear h4x hE lN hi hj r1 r2 r3 hN1 hN2 hz lF nt hN hF ccn ccf in1 in2 in3 hn
        go_wp2_with fail
        (with_reducible refine (CC.out _ _ _ (RS.out _ HAr.out) (fun e => by cases e)).mono ?_)
        rintro e v1 ⟨g1, c1, rfl, ho1, hB1⟩
        have HB1 := Lib.hid hB1
        have HR1 := Lib.hid (OwnG.is encU1_ok ho1)
        clear ho1 hB1
        go_wp2_with fail
        (with_reducible refine (NT.out _ _ _ HR1.out).mono ?_)
        rintro e v2 ⟨A2, c2, rfl, hR2, hB2⟩
        obtain ⟨b2, o2, rfl, -⟩ := hR2 (by rw [LN.out]; omega)
        have HB2 := Lib.hid (HB1.out.trans (hB2.mono HB1.out.size))
        have HR2 := Lib.hid hR2
        clear hR2 hB2
        go_wp2_with fail
        (with_reducible refine (CC.out _ _ _ (RS.out _ (HAr.out.later HB2.out)) (fun e => by cases e)).mono ?_)
        rintro e v3 ⟨g3, c3, rfl, ho3, hB3⟩
        have HB3 := Lib.hid (HB2.out.trans (hB3.mono HB2.out.size))
        have HR3 := Lib.hid (OwnG.is encU1_ok ho3)
        have HR2 := Lib.hid (HR2.out.later hB3)
        clear ho3 hB3
        go_wp2_with fail
        (with_reducible refine (CN.out _ _ _ HR2.out (fun e => by cases e)).mono ?_)
        rintro e v4 ⟨g4, c4, rfl, ho4, hB4⟩
        have HB4 := Lib.hid (HB3.out.trans (hB4.mono HB3.out.size))
        have HR4 := Lib.hid (OwnG.is encU1_ok ho4)
        have HR3 := Lib.hid (HR3.out.later hB4)
        have HR2 := Lib.hid (HR2.out.later hB4)
        clear ho4 hB4
        go_wp2_with fail
        (with_reducible refine (I1.out _ _ _ _ _ HR3.out HR4.out).mono ?_)
        rintro e v5 ⟨rfl, hB5⟩
        have HB5 := Lib.hid (HB4.out.trans (hB5.mono HB4.out.size))
        have HR2 := Lib.hid (HR2.out.later hB5)
        clear hB5
        go_wp2_with fail
        (with_reducible refine (CF.out _ _ _ (HRc.out.later HB5.out) (fun e => by cases e)).mono ?_)
        rintro e v6 ⟨g6, c6, rfl, ho6, hB6⟩
        have HB6 := Lib.hid (HB5.out.trans (hB6.mono HB5.out.size))
        have HR6 := Lib.hid (OwnG.is encU1_ok ho6)
        have HR2 := Lib.hid (HR2.out.later hB6)
        clear ho6 hB6
        go_wp2_with fail
        (with_reducible refine (CN.out _ _ _ HR2.out (fun e => by cases e)).mono ?_)
        rintro e v7 ⟨g7, c7, rfl, ho7, hB7⟩
        have HB7 := Lib.hid (HB6.out.trans (hB7.mono HB6.out.size))
        have HR7 := Lib.hid (OwnG.is encU1_ok ho7)
        have HR6 := Lib.hid (HR6.out.later hB7)
        have HR2 := Lib.hid (HR2.out.later hB7)
        clear ho7 hB7
        go_wp2_with fail
        (with_reducible refine (I2.out _ _ _ _ _ HR6.out HR7.out).mono ?_)
        rintro e v8 ⟨rfl, hB8⟩
        have HB8 := Lib.hid (HB7.out.trans (hB8.mono HB7.out.size))
        have HR2 := Lib.hid (HR2.out.later hB8)
        clear hB8
        by_cases hk9 : (n : Int) ≤ (k : Int)
        · rw [decide_eq_true hk9]
          have n3 : (n : Int) < 8 * (L : Int) := by omega
          go_wp2_with fail
          (with_reducible refine (CN.out _ _ _ HR2.out (fun e => by cases e)).mono ?_)
          rintro e v9 ⟨g9, c9, rfl, ho9, hB9⟩
          have g9l := (own_lt ho9 rfl).1
          have HB9 := Lib.hid (HB8.out.trans (hB9.mono HB8.out.size))
          have hb9 := HB8.out.size
          have hc0 := ownU_cell ho9 HN2.out
          have hf0 := ownU_frozen ho9 i
          have hox := ownU_set ho9 LN.out.symm i (orB z j)
          have hbx := bits_or z j8
          have HOx := Lib.hid hox
          have HBx := Lib.hid ((HB9.out.setCell (p := ⟨g9, i, none⟩) (by show wr.heap.size ≤ g9; exact Nat.le_trans hb9 g9l) (.int .u8 ((orB z j).toNat : Int))).drew)
          have i3 := I3
          have hR3 := R3.out hk9
          clear ho9 hox hB9
          go_wp2_with fail
          go_region
          go_wp2_with fail
          (with_reducible refine (CC.out _ _ _ (RS.out _ (HAr.out.later HBx.out)) (fun e => by cases e)).mono ?_)
          rintro e v10 ⟨g10, c10, rfl, ho10, hB10⟩
          have HB10 := Lib.hid (HBx.out.trans (hB10.mono HBx.out.size))
          have HR10 := Lib.hid (OwnG.is encU1_ok ho10)
          have HRx := Lib.hid (Rs.later (OwnG.is encU1_ok (show OwnG 1 encU1 5 (v9.setCell ⟨g9, i, none⟩ (.int .u8 ((orB z j).toNat : Int))).drew _ (.slice (some ⟨g9, 0, none⟩) L c9) (N.set i (orB z j)) from HOx.out)) hB10)
          have I3' := I3.out
          simp only [hR3] at I3'
          have I4 := Lib.hid I3'
          clear ho10 hB10 I3' hR3 i3 hc0 hf0 hbx
          go_wp2_with fail
          (with_reducible refine (I4.out _ _ _ _ _ HR10.out HRx.out).mono ?_)
          rintro e v11 ⟨rfl, hB11⟩
          have HB11 := Lib.hid (HB10.out.trans (hB11.mono HB10.out.size))
          clear hB11
          go_wp2_with fail
          go_roundg q
          case measure => omega
          case rel => exact ⟨n + 1, by have := Hn.out; omega, by go_num, HAr.out.later HB11.out, by rw [HFe.out]; exact HRc.out.later HB11.out, HBr.out.trans (HB11.out.mono HBr.out.size)⟩
        · rw [decide_eq_false hk9]
          have n3 : (n : Int) < 8 * (L : Int) ∨ ¬ (n : Int) < 8 * (L : Int) := by omega
          rcases n3 with n3 | n3
          all_goals
            go_wp2_with fail
            go_roundg q
            case measure => omega
            case rel => exact ⟨n + 1, by have := Hn.out; omega, by go_num, HAr.out.later HB8.out, by rw [HFe.out]; exact HRc.out.later HB8.out, HBr.out.trans (HB8.out.mono HBr.out.size)⟩
end Go.Proofs.YtoldhhaplndkcaaDoor
