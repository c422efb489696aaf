/- The document's form, Mask, ranges. -/
import Derived.Test.YtedhlofmkehfkaaRefB
namespace Go.Proofs.Ytedhlofmkehfkaa
open Go.RowKit Go.Shelf
set_option linter.unusedVariables false
set_option linter.unusedSimpArgs false

set_option maxRecDepth 100000 in
set_option maxHeartbeats 1600000 in
theorem form_any (n : Node) (w : World) : Calls Try.prog 71 #[.agg (enc n)] w fun e w' => e = .returned (.bool ((arityK n.kind).isSome && unusedB n.kind n)) ∧ Below w.heap.size w w' := by
  rw [← form_eq]
  obtain ⟨rr, hrr⟩ : ∃ b, (decide (0 ≤ arI n.kind) && mayB n && decide (bareN n = { Node.zero with kind := n.kind })) = b := ⟨_, rfl⟩
  rw [hrr]
  have Hrr := Lib.hid hrr
  clear hrr
  go_enter Try.func71, Try.ntmps71
  go_wp2_with fail
  refine (bare_any n _).mono ?_
  rintro e w2 ⟨rfl, hB2⟩
  have hB3 : Below w.heap.size w w2 := ((Below.refl _ w).alloc (Nat.le_refl _) _).trans (hB2.mono (by simp))
  have hn2 : nodeAt w2 ⟨w.heap.size, 0, none⟩ = some n := nodeAt_later hB2 (nodeAt_new w n _)
  have k0 : w2.cell? ⟨w.heap.size, 0, none⟩ = some (.int .i64 n.kind) := by
    have := nodeIn_of hn2 0 _ rfl
    rwa [add_plain, Nat.add_zero] at this
  have hlt : w.heap.size < w2.heap.size := nodeAt_lt hn2
  have HB3 := Lib.hid hB3
  have hr := arI_range n.kind
  clear hB2 hB3
  obtain ⟨mb, hmb⟩ : ∃ x, mayB n = x := ⟨_, rfl⟩
  have hrr := Hrr.out
  rw [hmb] at hrr ⊢
  clear hmb Hrr
  have Hrr := Lib.hid hrr
  clear hrr
  go_wp2_with fail
  refine (refarity_any _ _).mono ?_
  rintro e w3 ⟨rfl, rfl⟩
  obtain ⟨a, ha⟩ : ∃ x, arI n.kind = x := ⟨_, rfl⟩
  have hrr := Hrr.out
  rw [ha] at hr hrr ⊢
  have Hr2 := Lib.hid hrr
  clear ha Hrr hrr
  by_cases h0 : 0 ≤ a
  · have hd : decide (0 ≤ a) = true := decide_eq_true h0
    cases mb with
    | true =>
      have hfin : rr = decide (bareN n = { Node.zero with kind := n.kind }) := by rw [← Hr2.out, hd]; simp
      have Hfin := Lib.hid hfin
      clear hfin hd
      go_wp2_with fail
      go_ret
      rw [Hfin.out]
      refine ⟨?_, HB3.out.alloc HB3.out.size _⟩
      rfl
    | false =>
      have hfin : rr = false := by rw [← Hr2.out]; simp
      subst hfin
      clear hd
      go_wp2_with fail
      go_ret
      exact ⟨rfl, HB3.out.alloc HB3.out.size _⟩
  · have hd : decide (0 ≤ a) = false := decide_eq_false h0
    have hfin : rr = false := by rw [← Hr2.out, hd]; simp
    subst hfin
    have h1 : a < 0 := by omega
    clear hd h0
    go_wp2_with fail
    go_ret
    exact ⟨rfl, HB3.out.alloc HB3.out.size _⟩
theorem and_none (b : Fin 256) : Go.bits .and .u8 (b.val : Int) 0 = 0 := by revert b; decide +kernel
theorem and_all (b : Fin 256) : Go.bits .and .u8 (b.val : Int) 255 = (b.val : Int) := by revert b; decide +kernel
theorem and_some (l : Fin 8) (b : Fin 256) : Go.bits .andNot .u8 (b.val : Int) (255 / 2 ^ l.val) = Go.bits .and .u8 (b.val : Int) (65280 / 2 ^ l.val % 256) := by revert l b; decide +kernel
theorem byte_fin {x : Int} (h : isByte x) : ∃ b : Fin 256, x = (b.val : Int) := ⟨⟨x.toNat, by have := h.1; have := h.2; omega⟩, by have := h.1; show x = (x.toNat : Int); omega⟩
theorem netByte_low {bits : Int} {i : Nat} {x : Int} (h : bits - 8 * (i : Int) ≤ 0) (hx : isByte x) : netByte bits i x = 0 := by
  obtain ⟨b, rfl⟩ := byte_fin hx
  have hc : clamp8 (bits - 8 * (i : Int)) = 0 := by unfold clamp8; split <;> split <;> omega
  unfold netByte
  rw [hc]
  exact and_none b
theorem netByte_high {bits : Int} {i : Nat} {x : Int} (h : 8 ≤ bits - 8 * (i : Int)) (hx : isByte x) : netByte bits i x = x := by
  obtain ⟨b, rfl⟩ := byte_fin hx
  have hc : clamp8 (bits - 8 * (i : Int)) = 8 := by unfold clamp8; split <;> split <;> omega
  unfold netByte
  rw [hc]
  exact and_all b
theorem netByte_mid {bits : Int} {i : Nat} {x : Int} (h0 : 0 < bits - 8 * (i : Int)) (h8 : bits - 8 * (i : Int) < 8) (hx : isByte x) : Go.bits .andNot .u8 x (255 / 2 ^ (bits - 8 * (i : Int)).toNat) = netByte bits i x := by
  obtain ⟨b, rfl⟩ := byte_fin hx
  have hc : clamp8 (bits - 8 * (i : Int)) = bits - 8 * (i : Int) := by unfold clamp8; split <;> split <;> omega
  unfold netByte
  rw [hc]
  exact and_some ⟨(bits - 8 * (i : Int)).toNat, by omega⟩ b
/-- A row whose first cells are such bytes. -/
def MR (w : World) (g n : Nat) (f : Nat → Int) : Prop := ∃ cur, w.heap[g]? = some (.cells cur 5 (0, 0)) ∧ ∀ j, j < n → cur[j]? = some (.int .u8 (f j))
theorem MR.cell {w : World} {g n : Nat} {f : Nat → Int} (h : MR w g n f) {j : Nat} (hj : j < n) : w.cell? ⟨g, j, none⟩ = some (.int .u8 (f j)) := by
  obtain ⟨cur, h1, h2⟩ := h
  rw [cell_of_row w g j _ _ _ h1]
  exact h2 j hj
theorem MR.free {w : World} {g n : Nat} {f : Nat → Int} (h : MR w g n f) (j : Nat) : w.frozen? ⟨g, j, none⟩ = false := by
  obtain ⟨cur, h1, _⟩ := h
  exact frozen_of_row w g j _ _ h1
theorem MR.lt {w : World} {g n : Nat} {f : Nat → Int} (h : MR w g n f) : g < w.heap.size := by
  obtain ⟨cur, h1, _⟩ := h
  exact (Array.getElem?_eq_some_iff.1 h1).1
theorem MR.drew {w : World} {g n : Nat} {f : Nat → Int} (h : MR w g n f) : MR w.drew g n f := h
theorem MR.congr {w : World} {g n : Nat} {f f2 : Nat → Int} (h : MR w g n f) (he : ∀ j, j < n → f2 j = f j) : MR w g n f2 := by
  obtain ⟨cur, h1, h2⟩ := h
  exact ⟨cur, h1, fun j hj => by rw [he j hj]; exact h2 j hj⟩
theorem MR.set {w : World} {g n i : Nat} {f : Nat → Int} {x : Int} (h : MR w g n f) (hi : i < n) : MR (w.setCell ⟨g, i, none⟩ (.int .u8 x)) g n (fun j => if j = i then x else f j) := by
  obtain ⟨cur, h1, h2⟩ := h
  refine ⟨_, heap_setCell_same w g i _ _ _ h1, fun j hj => ?_⟩
  have hl := (Array.getElem?_eq_some_iff.1 (h2 i hi)).1
  by_cases hji : j = i
  · subst hji
    rw [Array.getElem?_setIfInBounds_self]
    simp [hl]
  · rw [Array.getElem?_setIfInBounds_ne (fun e => hji e.symm)]
    show cur[j]? = some (.int .u8 (if j = i then x else f j))
    rw [if_neg hji]
    exact h2 j hj
theorem MR.of_own {w : World} {base g n cap : Nat} {xs : List Int} (h : w.ownsRow base 5 1 (.slice (some ⟨g, 0, none⟩) n cap) n (nums .u8 xs)) : MR w g n (fun j => xs.getD j 0) ∧ base ≤ g := by
  have hl := h.1
  rcases h.2 with ⟨e, _⟩ | ⟨g2, c2, cur, e, h1, h2, h3, h4, h5, h6⟩
  · cases e
  · cases e
    refine ⟨⟨cur, h2, fun j hj => ?_⟩, h1⟩
    rw [nums_length] at hl
    have e1 := nums_get .u8 xs j (by omega)
    rw [← h6, List.getElem?_take, if_pos (by omega)] at e1
    simpa using e1
theorem netL_get (bits : Int) : ∀ (xs : List Int) (i j : Nat), j < xs.length → (netL bits xs i).getD j 0 = netByte bits (i + j) (xs.getD j 0)
  | [], i, j, h => by cases h
  | x :: xs, i, 0, h => by simp [netL]
  | x :: xs, i, j + 1, h => by
    have := netL_get bits xs (i + 1) j (by simpa using h)
    simp only [netL, List.getD_cons_succ]
    rw [this]
    congr 1
    omega
theorem byteInfos : (Try.prog.info? 5).map (fun i => (i.zero, i.size, i.bytes)) = some (some (.int .u8 0), 1, 1) := by kernel_rfl
set_option maxRecDepth 100000 in
set_option maxHeartbeats 1600000 in
theorem mask_any (b o n c : Nat) (bits : Int) (xs : List Int) (w : World) (hl : xs.length = n) (hr : RdAt w b o (nums .u8 xs)) (hx : ∀ x ∈ xs, isByte x) (hn : n = 4 ∨ n = 16) (hb0 : 0 ≤ bits) (hb1 : bits ≤ 8 * (n : Int)) :
    Calls Try.prog 88 #[.slice (some ⟨b, o, none⟩) n c, .int .i64 bits] w fun e w' => ∃ g cap, e = .returned (.slice (some ⟨g, 0, none⟩) n cap) ∧ MR w' g n (fun j => (netL bits xs 0).getD j 0) ∧ w.heap.size ≤ g ∧ Below w.heap.size w w' := by
  obtain ⟨i0, hi0, hz0, hz1, hz2⟩ := info_parts byteInfos
  have Hz0 := Lib.hid hz0
  have Hz1 := Lib.hid hz1
  have Hz2 := Lib.hid hz2
  have Hl := Lib.hid hl
  have Hx := Lib.hid hx
  have hn1 : n ≤ 16 := by omega
  have hn4 : 4 ≤ n := by omega
  have hbl : b < w.heap.size := World.block_lt_of_cell? w _ (hr 0 _ (nums_get .u8 xs 0 (by omega)))
  have hnews : ∀ j u, (nums .u8 xs)[j]? = some u → (w.alloc (.cells #[] 5)).cell? ((⟨b, o, none⟩ : Addr).add j) = some u := fun j u hu => by
    rw [add_plain]
    exact (((Below.refl _ w).alloc (Nat.le_refl _) (.cells #[] 5)).cell (World.block_lt_of_cell? w _ (hr j u hu))).trans (hr j u hu)
  have hown0 : (w.alloc (.cells #[] 5)).ownsRow w.heap.size 5 1 (.slice (some ⟨w.heap.size, 0, none⟩) 0 0) 0 [] := ⟨rfl, .inr ⟨w.heap.size, 0, #[], rfl, Nat.le_refl _, heap_alloc_new w _, Nat.le_refl _, by simp [maxLen], rfl, rfl⟩⟩
  have Hnews := Lib.hid hnews
  have Hown0 := Lib.hid hown0
  have H416 := Lib.hid hn
  clear hz0 hz1 hz2 hl hx hnews hown0 hr hn
  go_enter Try.func88, Try.ntmps88
  go_upto_region 2 with (at_builtin; refine wpList_append_lies _ rfl _ _ 88 rfl w.heap.size 5 i0 (.int .u8 0) 1 1 Try.underlying88 hi0 Hz0.out Hz1.out Hz2.out rfl (by decide) (.slice (some ⟨w.heap.size, 0, none⟩) 0 0) 0 [] rfl Hown0.out ⟨b, o, none⟩ n c (nums .u8 xs) rfl (by rw [nums_length, Hl.out]; omega) Hnews.out (by intro u hu; simp only [nums, List.mem_map] at hu; obtain ⟨x, _, rfl⟩ := hu; rfl) (by omega) (by simp only [maxLen]; omega) (by omega) (by simp) (w.heap.size + 1) (by simp) ?_; intro g cap w2 hown hgrow hat hlt)
  have hown' : w2.ownsRow w.heap.size 5 1 (.slice (some ⟨g, 0, none⟩) n cap) n (nums .u8 xs) := by
    have h := hown
    rw [Nat.zero_add, List.nil_append] at h
    exact h
  obtain ⟨hM, hge⟩ := MR.of_own hown'
  have HM := Lib.hid hM
  have hB2 : Below w.heap.size w w2 := ((Below.refl _ w).alloc (Nat.le_refl _) (.cells #[] 5)).grown hgrow (by simp) fun k e => by cases e; exact Nat.le_refl _
  have HB2 := Lib.hid hB2
  clear hown hown' hgrow hat hlt hM hB2
  go_wp2_with fail
  go_loopw [6] (fun x wr => ∃ i : Nat, i ≤ n ∧ x = .int .i64 i ∧ MR wr g n (fun j => if j < i then netByte bits j (xs.getD j 0) else xs.getD j 0) ∧ Below w.heap.size w wr) (fun x _ => n - (intOf x).toNat)
  case atStart => exact ⟨0, by omega, rfl, HM.out.congr fun j hj => by simp, HB2.out⟩
  case round =>
    obtain ⟨i, hi, rfl, hM, hB⟩ := hrel
    have HMi := Lib.hid hM
    have HB := Lib.hid hB
    clear hM hB
    by_cases hlt : i < n
    · have hcell := HMi.out.cell hlt
      have hfree := HMi.out.free i
      simp only [Nat.lt_irrefl, if_false] at hcell
      have hxb : isByte (xs.getD i 0) := by
        have h := Hl.out
        rw [List.getD_eq_getElem?_getD, List.getElem?_eq_getElem (by omega)]
        exact Hx.out _ (List.getElem_mem _)
      obtain ⟨x, hx⟩ : ∃ x, xs.getD i 0 = x := ⟨_, rfl⟩
      rw [hx] at hcell hxb
      have Hxe := Lib.hid hx
      have Hxb := Lib.hid hxb
      have i1 : (i : Int) < (n : Int) := by omega
      have i2 : (0 : Int) ≤ (i : Int) := by omega
      have i3 : (i : Int) ≤ 16 := by omega
      have b1 : bits ≤ 128 := by omega
      have fin : ∀ (W : World), MR W g n (fun j => if j = i then netByte bits i x else (if j < i then netByte bits j (xs.getD j 0) else xs.getD j 0)) → MR W g n (fun j => if j < i + 1 then netByte bits j (xs.getD j 0) else xs.getD j 0) := fun W h => h.congr fun j hj => by
        by_cases hji : j = i
        · subst hji
          rw [if_pos rfl, if_pos (by omega), Hxe.out]
        · rw [if_neg hji]
          by_cases hj2 : j < i
          · rw [if_pos hj2, if_pos (by omega)]
          · rw [if_neg hj2, if_neg (by omega)]
      have Fin := Lib.hid fin
      have Hge := Lib.hid hge
      clear hx hxb fin
      by_cases hL : bits - 8 * (i : Int) ≤ 0
      · have hnb := netByte_low hL Hxb.out
        have Hnb := Lib.hid hnb
        clear hnb
        go_wp2_with fail
        go_round
        case rel => exact ⟨i + 1, by omega, by go_num, Fin.out _ (by rw [Hnb.out]; exact HMi.out.set hlt), HB.out.setCell Hge.out _⟩
        case measure => simp [intOf]; omega
      · by_cases h8 : bits - 8 * (i : Int) < 8
        · have hnb := netByte_mid (by omega) h8 Hxb.out
          have Hnb := Lib.hid hnb
          have hL2 : 0 < bits - 8 * (i : Int) := by omega
          clear hnb hL
          go_upto_region 9 with fail
          have hcell2 : wr.drew.cell? ⟨g, i, none⟩ = some (.int .u8 x) := hcell
          have hfree2 : wr.drew.frozen? ⟨g, i, none⟩ = false := hfree
          go_region_with (fail)
          all_goals
            go_wp2_with fail
            go_round
            case rel => exact ⟨i + 1, by omega, by go_num, Fin.out _ (by rw [← Hnb.out]; exact HMi.out.drew.set hlt), HB.out.drew.setCell Hge.out _⟩
            case measure => simp [intOf]; omega
        · have hnb := netByte_high (show 8 ≤ bits - 8 * (i : Int) by omega) Hxb.out
          have Hnb := Lib.hid hnb
          have h82 : 8 ≤ bits - 8 * (i : Int) := by omega
          clear hnb hL h8
          go_wp2_with fail
          go_round
          case rel =>
            refine ⟨i + 1, by omega, by go_num, Fin.out _ (HMi.out.congr fun j hj => ?_), HB.out⟩
            by_cases hji : j = i
            · subst hji
              rw [if_pos rfl, Hnb.out, if_neg (Nat.lt_irrefl _)]
              exact Hxe.out.symm
            · rw [if_neg hji]
          case measure => simp [intOf]; omega
    · have hin : i = n := by omega
      subst hin
      have HF := Lib.hid (HMi.out.congr (f2 := fun j => (netL bits xs 0).getD j 0) fun j hj => by
        rw [netL_get bits xs 0 j (by have := Hl.out; omega), Nat.zero_add, if_pos hj])
      have Hge := Lib.hid hge
      clear hlt hi
      go_wp2_with fail
      go_ret
      exact ⟨g, cap, rfl, HF.out, Hge.out, HB.out⟩
end Go.Proofs.Ytedhlofmkehfkaa
