/- The document's masks and nets: walked. -/
import Derived.Test.YtoldhhaplndkcaaDoorNet
import Derived.RegionTactic
import Derived.ChangeAlike
import Derived.Laws.OwnMore
namespace Go.Proofs.YtoldhhaplndkcaaDoor
open Go.RowKit Go.Shelf
set_option linter.unusedVariables false
set_option linter.unusedSimpArgs false

theorem ownU_set {W : World} {base g n c : Nat} {l : List UInt8} (h : OwnG 1 encU1 5 W base (.slice (some ⟨g, 0, none⟩) n c) l) (hn : n = l.length) (i : Nat) (x : UInt8) :
    OwnG 1 encU1 5 (W.setCell ⟨g, i, none⟩ (.int .u8 (x.toNat : Int))) base (.slice (some ⟨g, 0, none⟩) n c) (l.set i x) := by
  subst hn
  unfold OwnG at *
  have := (h.stored i (.int .u8 (x.toNat : Int))).1
  rw [List.length_set]
  rw [flat_nat] at this ⊢
  unfold natsU at *
  rw [List.map_set, List.map_set]
  exact this
theorem ownU_cell {W : World} {base g n c i : Nat} {l : List UInt8} {x : UInt8} (h : OwnG 1 encU1 5 W base (.slice (some ⟨g, 0, none⟩) n c) l) (hi : l[i]? = some x) : W.cell? ⟨g, i, none⟩ = some (.int .u8 (x.toNat : Int)) := by
  have := bytes_cell (OwnG.is encU1_ok h) hi
  rwa [Nat.zero_add] at this
theorem ownU_frozen {W : World} {base g n c : Nat} {l : List UInt8} (h : OwnG 1 encU1 5 W base (.slice (some ⟨g, 0, none⟩) n c) l) (i : Nat) : W.frozen? ⟨g, i, none⟩ = false := by
  rcases h.2 with ⟨e, _⟩ | ⟨g2, cap, cur, e, h1, h2, _⟩
  · cases e
  · cases e
    exact frozen_of_row W g i cur _ h2
theorem andNot_keepB {d : Int} (x : UInt8) (h0 : 0 < d) (h8 : d < 8) : Go.bits .andNot .u8 (x.toNat : Int) (255 / 2 ^ d.toNat) = ((keepB8 d x).toNat : Int) := by
  have hc : clampB d = d.toNat := by
    unfold clampB
    rw [if_neg (by omega), if_neg (by omega)]
  rw [keepB8_toNat, hc]
  exact andNot_keep (by omega) x.toNat_lt
theorem keepB8_zero {d : Int} (x : UInt8) (h : d ≤ 0) : keepB8 d x = 0 := by
  unfold keepB8 clampB
  rw [if_pos h, keepN_zero x.toNat_lt]
  rfl
theorem keepB8_full {d : Int} (x : UInt8) (h : 8 ≤ d) : keepB8 d x = x := by
  unfold keepB8 clampB
  rw [if_neg (by omega), if_pos h, keepN_full]
  exact UInt8.ofNat_toNat
theorem set_same {l : List UInt8} {i : Nat} {x : UInt8} (h : l[i]? = some x) : l.set i x = l := by
  apply List.ext_getElem?
  intro k
  rw [List.getElem?_set]
  split
  · rename_i e
    subst e
    rw [if_pos (List.getElem?_eq_some_iff.1 h).1, h]
  · rfl
theorem mask_step {bits d : Int} {xs : List UInt8} {i : Nat} {x : UInt8} (hx : xs[i]? = some x) (hd : bits - 8 * (i : Int) = d) :
    (maskL bits (xs.take i) ++ xs.drop i).set i (keepB8 d x) = maskL bits (xs.take (i + 1)) ++ xs.drop (i + 1) := by
  have hi : i < xs.length := (List.getElem?_eq_some_iff.1 hx).1
  have hl : (maskL bits (xs.take i)).length = i := by rw [maskL_len, List.length_take]; omega
  have hdr : xs.drop i = x :: xs.drop (i + 1) := by
    rw [List.drop_eq_getElem_cons hi]
    congr 1
    exact (List.getElem?_eq_some_iff.1 hx).2
  rw [List.set_append_right _ _ (by omega), hl, Nat.sub_self, hdr, List.set_cons_zero, take_succ_getD hx, maskL_snoc, List.length_take, show min i xs.length = i from by omega, hd, List.append_assoc]
  rfl
theorem mask_get {bits : Int} {xs : List UInt8} {i : Nat} {x : UInt8} (hx : xs[i]? = some x) : (maskL bits (xs.take i) ++ xs.drop i)[i]? = some x := by
  have hi : i < xs.length := (List.getElem?_eq_some_iff.1 hx).1
  have hl : (maskL bits (xs.take i)).length = i := by rw [maskL_len, List.length_take]; omega
  rw [List.getElem?_append_right (by omega), hl, Nat.sub_self, List.getElem?_drop, Nat.add_zero, hx]
set_option maxRecDepth 100000 in
set_option maxHeartbeats 1600000 in
theorem rmask_any (A : Option Addr) (c : Nat) (xs : List UInt8) (bits : Int) (w : World) (hA : Rs encU1 w A xs) (hl : 4 ≤ xs.length ∧ xs.length ≤ 16) (hb0 : 0 ≤ bits) (hb1 : bits ≤ 128) :
    Calls Tryd.prog 47 #[.slice A xs.length c, .int .i64 bits] w fun e w' => ∃ g c2, e = .returned (.slice (some ⟨g, 0, none⟩) xs.length c2) ∧ OwnG 1 encU1 5 w' w.heap.size (.slice (some ⟨g, 0, none⟩) xs.length c2) (maskL bits xs) ∧ Below w.heap.size w w' := by
  obtain ⟨i0, hi0, hz0, hz1, hz2⟩ := info_parts infoU1
  have Hz0 := Lib.hid hz0
  have Hz1 := Lib.hid hz1
  have Hz2 := Lib.hid hz2
  obtain ⟨L, hL⟩ : ∃ L, xs.length = L := ⟨_, rfl⟩
  have HL := Lib.hid hL
  rw [hL] at hl ⊢
  have hB1 : Below w.heap.size w (w.alloc (.cells #[] 5)) := (Below.refl _ w).alloc (Nat.le_refl _) _
  have hown0 : (w.alloc (.cells #[] 5)).ownsRow w.heap.size 5 1 (.slice (some ⟨w.heap.size, 0, none⟩) 0 0) 0 [] := ⟨rfl, .inr ⟨w.heap.size, 0, #[], rfl, Nat.le_refl _, heap_alloc_new w _, Nat.le_refl _, Nat.zero_le _, rfl, rfl⟩⟩
  obtain ⟨b, o, rfl, hc0⟩ := (hA.later hB1) (by omega)
  have hc : ∀ j u, (flatG encU1 xs)[j]? = some u → (w.alloc (.cells #[] 5)).cell? ((⟨b, o, none⟩ : Addr).add j) = some u := fun j u hu => by rw [add_plain]; exact hc0 j u hu
  have hfl : (flatG encU1 xs).length = L := by rw [flatG_length encU1_ok, Nat.mul_one, hL]
  have HC := Lib.hid hc
  have HO := Lib.hid hown0
  have HB := Lib.hid hB1
  have HFl := Lib.hid hfl
  have hL4 : 4 ≤ L := hl.1
  have hL16 : L ≤ 16 := hl.2
  have l0 : (L : Int) ≤ 16 := by omega
  clear hz0 hz1 hz2 hc hown0 hB1 hA hfl hc0 hL hl
  go_enter Tryd.func47, Tryd.ntmps47
  go_wp2_with (at_builtin; refine wpList_append_lies _ rfl _ _ 34 rfl w.heap.size 5 i0 (.int .u8 0) 1 1 Tryd.underlying34 hi0 Hz0.out Hz1.out Hz2.out rfl (by decide) (.slice (some ⟨w.heap.size, 0, none⟩) 0 0) 0 [] rfl HO.out ⟨b, o, none⟩ L c (flatG encU1 xs) rfl (by rw [HFl.out, Nat.mul_one]) HC.out (flatG_one encU1_ok xs) (by omega) (by simp only [maxLen]; omega) (by omega) (by simp) (w.heap.size + 1) (by simp) ?_; intro g cap w1 hown hgrow hat hlt)
  rw [Nat.zero_add, List.nil_append] at hown
  have hO1 : OwnG 1 encU1 5 w1 w.heap.size (.slice (some ⟨g, 0, none⟩) L cap) (maskL bits (xs.take 0) ++ xs.drop 0) := by
    show OwnG 1 encU1 5 w1 w.heap.size (.slice (some ⟨g, 0, none⟩) L cap) xs
    unfold OwnG
    rw [HL.out]
    exact hown
  have hB2 : Below w.heap.size w w1 := HB.out.grown hgrow (by simp) (fun k e => by cases e; exact Nat.le_refl _)
  have hge : w.heap.size ≤ g := (own_lt hown rfl).1
  have HO1 := Lib.hid hO1
  have HB2 := Lib.hid hB2
  clear hown hgrow hat hlt hO1 hB2
  go_wp2_with fail
  go_loopg [6] L (fun q s6 wr => ∃ i : Nat, i + q = L ∧ s6 = .int .i64 i ∧ OwnG 1 encU1 5 wr w.heap.size (.slice (some ⟨g, 0, none⟩) L cap) (maskL bits (xs.take i) ++ xs.drop i) ∧ Below w.heap.size w wr)
  case atStart => exact ⟨0, by omega, rfl, HO1.out, HB2.out⟩
  case round =>
    obtain ⟨i, hi, rfl, hR, hBr⟩ := hrel
    have HBr := Lib.hid hBr
    have HR := Lib.hid hR
    have j0 : (0 : Int) ≤ (i : Int) := by omega
    clear hBr hR
    cases gk with
    | zero =>
      have j1 : ¬ (i : Int) < (L : Int) := by omega
      have hiL : i = L := by omega
      have HI := Lib.hid hiL
      clear hiL hi
      go_wp2_with fail
      go_ret
      have hw := HR.out
      rw [HI.out, List.take_of_length_le (by rw [HL.out]; exact Nat.le_refl _), List.drop_of_length_le (by rw [HL.out]; exact Nat.le_refl _), List.append_nil] at hw
      exact ⟨g, cap, rfl, hw, HBr.out⟩
    | succ q =>
      have j1 : (i : Int) < (L : Int) := by omega
      obtain ⟨x, hx⟩ : ∃ x, xs[i]? = some x := ⟨_, List.getElem?_eq_getElem (by have := HL.out; omega)⟩
      have c0 := ownU_cell HR.out (mask_get (bits := bits) hx)
      have f0 := ownU_frozen HR.out i
      obtain ⟨d, hd⟩ : ∃ d, bits - 8 * (i : Int) = d := ⟨_, rfl⟩
      have hst := mask_step hx hd
      have hlen : L = (maskL bits (xs.take i) ++ xs.drop i).length := by
        rw [List.length_append, maskL_len, List.length_take, List.length_drop]
        have := HL.out
        omega
      have hR2 := ownU_set HR.out hlen i (keepB8 d x)
      have HI := Lib.hid hi
      have hnx := HR.out
      by_cases hd0 : d ≤ 0
      · have hk := keepB8_zero x hd0
        rw [hst, hk] at hR2
        have HR2 := Lib.hid hR2
        clear hst hlen hR2 hi hnx hk hx
        go_wp2_with fail
        go_roundg q
        case measure => omega
        case rel => exact ⟨i + 1, by have := HI.out; omega, by go_num, HR2.out, HBr.out.setCell (p := ⟨g, i, none⟩) hge _⟩
      · by_cases hd8 : d < 8
        · have ha := andNot_keepB x (by omega : 0 < d) hd8
          rw [hst] at hR2
          have HR2 := Lib.hid hR2
          clear hst hlen hR2 hi hnx hx
          go_wp2_with fail
          go_region
          all_goals
            go_wp2_with fail
            go_roundg q
            case measure => omega
            case rel => exact ⟨i + 1, by have := HI.out; omega, by go_num, HR2.out, (HBr.out.setCell (p := ⟨g, i, none⟩) hge _).drew⟩
        · have hk := keepB8_full x (by omega : 8 ≤ d)
          have hnx2 : maskL bits (xs.take i) ++ xs.drop i = maskL bits (xs.take (i + 1)) ++ xs.drop (i + 1) := by
            rw [← hst, hk]
            exact (set_same (mask_get hx)).symm
          rw [hnx2] at hnx
          have HR2 := Lib.hid hnx
          clear hst hlen hR2 hi hnx hk hx hnx2
          go_wp2_with fail
          go_roundg q
          case measure => omega
          case rel => exact ⟨i + 1, by have := HI.out; omega, by go_num, HR2.out, HBr.out⟩
end Go.Proofs.YtoldhhaplndkcaaDoor
