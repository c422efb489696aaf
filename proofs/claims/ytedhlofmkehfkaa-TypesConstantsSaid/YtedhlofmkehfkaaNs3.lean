/- SpoilNodes, KeptNodes, Low. -/
import Derived.Test.YtedhlofmkehfkaaNs2
import Derived.Deep.DeepAppendRoom
import Derived.ArgAppend
import Derived.Deep.DeepCutAuto
namespace Go.Proofs.Ytedhlofmkehfkaa
open Go.RowKit Go.Shelf
set_option linter.unusedVariables false
set_option linter.unusedSimpArgs false

/-- A block of the call's own with room for n nodes. -/
def Room (w : World) (g n : Nat) : Prop := ∃ cur, w.heap[g]? = some (.cells cur 40 (0, 0)) ∧ n * 24 ≤ cur.size
theorem Room.there {w : World} {g n i : Nat} (h : Room w g n) (hi : i < n) : w.there g (i * 24) 24 := by
  obtain ⟨cur, h1, h2⟩ := h
  intro j hj
  refine ⟨?_, frozen_of_row w g _ _ _ h1⟩
  rw [cell_of_row w g _ _ _ _ h1, Array.getElem?_eq_getElem (by omega)]
  rfl
theorem Room.lt {w : World} {g n : Nat} (h : Room w g n) : g < w.heap.size := by
  obtain ⟨cur, h1, h2⟩ := h
  exact (Array.getElem?_eq_some_iff.1 h1).1
theorem Room.of_own {w : World} {base n m c g : Nat} {xs : List Value} (h : w.ownsRow base 40 24 (.slice (some ⟨g, 0, none⟩) m c) n xs) : Room w g n := by
  rcases h.2 with ⟨e, _⟩ | ⟨g2, cap, cur, e, h1, h2, h3, h4, h5, _⟩
  · cases e
  · cases e
    exact ⟨cur, h2, by rw [h5]; omega⟩
theorem Room.mono {w : World} {g n m : Nat} (h : Room w g n) (hm : m ≤ n) : Room w g m := by
  obtain ⟨cur, h1, h2⟩ := h
  exact ⟨cur, h1, by omega⟩
theorem room_setCell {w : World} {g n : Nat} (h : Room w g n) (b o : Nat) (v : Value) : Room (w.setCell ⟨b, o, none⟩ v) g n := by
  obtain ⟨cur, h1, h2⟩ := h
  by_cases hb : g = b
  · subst hb
    exact ⟨_, heap_setCell_same w g o cur _ v h1, by simpa using h2⟩
  · exact ⟨cur, by rw [heap_setCell_other w ⟨b, o, none⟩ g v hb]; exact h1, h2⟩
theorem room_setCells {g n b : Nat} : ∀ (cs : List Value) (o : Nat) (w : World), Room w g n → Room (w.setCells b o cs) g n
  | [], _, _, h => h
  | v :: cs, o, w, h => room_setCells cs (o + 1) _ (room_setCell h b o v)
theorem grown_setCell (w : World) (b o : Nat) (v : Value) : w.grownBy (w.setCell ⟨b, o, none⟩ v) (some b) :=
  ⟨rfl, rfl, rfl, by simp, fun i hi hne => heap_setCell_other w _ i v (fun e => hne (by rw [e]))⟩
theorem grown_setCells {b : Nat} : ∀ (cs : List Value) (o : Nat) (w : World), w.grownBy (w.setCells b o cs) (some b)
  | [], _, w => ⟨rfl, rfl, rfl, Nat.le_refl _, fun _ _ _ => rfl⟩
  | v :: cs, o, w => World.grownBy.trans (grown_setCell w b o v) (grown_setCells cs (o + 1) _)
theorem grown_lt {w w' : World} {row : Option Nat} (h : w.grownBy w' row) : w.heap.size ≤ w'.heap.size := h.size
theorem own_cells {w : World} {base n c : Nat} {A : Option Addr} {xs : List Value} (h : w.ownsRow base 40 24 (.slice A n c) n xs) : ∀ b, A = some b → ∀ j u, xs[j]? = some u → w.cell? (b.add j) = some u := by
  intro b e j u hu
  subst e
  rcases h.2 with ⟨e, _⟩ | ⟨g, cap, cur, e, _⟩
  · cases e
  · cases e
    exact World.ownsRow.cells h (g := g) rfl j u hu
theorem nodeSize : (Try.prog.info? 40).map (·.size) = some (enc mark).size := by rw [enc_size]; exact nodeInfo
@[go_sem] theorem run_storeNode_at (w : World) (b o : Nat) (x : Node) (ht : w.there b o 24) : (storeNode (.pointer (some ⟨b, o, none⟩)) (.agg (enc x))).run Try.prog w = .ok () (w.setCells b o (encL x)) := by
  have := run_storeAt_mid (P := Try.prog) w b o 40 (enc x) (by rw [enc_size]; exact ht) (by rw [enc_size]; exact nodeInfo) (enc_oneCell x)
  exact this
set_option maxRecDepth 100000 in
set_option maxHeartbeats 1000000 in
theorem spoil_any (base : Nat) (A : Option Addr) (n c : Nat) (xs : List Value) (w : World) (hown : w.ownsRow base 40 24 (.slice A n c) n xs) (hn : n ≤ 1954687338263) :
    Calls Try.prog 24 #[.slice A n c] w fun e w' => e = .returned (.tuple #[]) ∧ w.grownBy w' (Value.slice A n c).ownBlock := by
  obtain ⟨i0, hi0, hz0, hz1, hz2⟩ := info_parts nodeInfos
  have Hz0 := Lib.hid hz0
  have Hz1 := Lib.hid hz1
  have Hz2 := Lib.hid hz2
  clear hz0 hz1 hz2
  have hx : ((w.alloc (.cells (flat [mark]).toArray 40)).heap[w.heap.size]? = some (.cells (flat [mark]).toArray 40 (0, 0))) := heap_alloc_new w _
  have Hx := Lib.hid (flat_news hx)
  clear hx
  have hown1 : (w.alloc (.cells (flat [mark]).toArray 40)).ownsRow base 40 24 (.slice A n c) n xs := own_later hown fun b hb => Below.heap_alloc _ _ _ (own_lt hown hb).2
  obtain ⟨row, hrow⟩ : ∃ r, (Value.slice A n c).ownBlock = r := ⟨_, rfl⟩
  rw [hrow]
  have hAn : A = none ∧ n = 0 ∧ c = 0 ∨ ∃ g, A = some ⟨g, 0, none⟩ := by
    rcases hown.2 with ⟨e, h0⟩ | ⟨g, cap, cur, e, _⟩
    · cases e; exact .inl ⟨rfl, h0, rfl⟩
    · cases e; exact .inr ⟨g, rfl⟩
  have HO := Lib.hid hown
  have HO1 := Lib.hid hown1
  have HR := Lib.hid hrow
  have HAn := Lib.hid hAn
  clear hown hown1 hrow hAn
  go_enter Try.func24, Try.ntmps24
  go_upto_region 0 with fail
  go_cut [2] (fun s2 W => ∃ g2 cap, s2 = .slice (some ⟨g2, 0, none⟩) (n + 1) cap ∧ Room W g2 (n + 1) ∧ (∀ g, A = some ⟨g, 0, none⟩ → Room W g n) ∧ w.grownBy W row ∧ (w.heap.size ≤ g2 ∨ row = some g2))
  case first =>
    by_cases hr : n + 1 ≤ c
    · obtain ⟨g, rfl⟩ : ∃ g, A = some ⟨g, 0, none⟩ := by
        rcases HAn.out with ⟨_, h1, h2⟩ | h
        · omega
        · exact h
      go_wp2_with (at_builtin; refine wpList_append_own_spare _ rfl _ _ 22 rfl base 40 i0 24 Try.underlying22 hi0 Hz1.out g n c xs rfl HO1.out ⟨w.heap.size, 0, none⟩ 1 1 (flat [mark]) rfl rfl Hx.out (flat_one _) hr ?_; intro w2 hown2 hgrow)
      go_meet
      have hrm := Room.of_own hown2
      exact ⟨g, c, rfl, hrm, fun g' e => by cases e; exact hrm.mono (by omega), by rw [← HR.out]; exact World.grownBy.trans (World.grownBy_alloc w _ _) hgrow, .inr (by rw [← HR.out]; rfl)⟩
    · go_wp2_with (at_builtin; refine wpList_append_grows _ rfl _ _ 22 rfl 40 i0 (.agg (enc Node.zero)) 24 72 Try.underlying22 hi0 Hz0.out Hz1.out Hz2.out rfl (by decide) A n c xs rfl (fun e => by rcases HAn.out with h | ⟨g, h⟩; exact h.2; rw [e] at h; cases h) HO1.out.1 (own_cells HO1.out) ⟨w.heap.size, 0, none⟩ 1 1 (flat [mark]) rfl rfl Hx.out (flat_one _) (by omega) (by simp only [maxLen]; omega) (by omega) ?_; intro v2 w2 hown2 hgrow)
      obtain ⟨g2, cap2, rfl, hge, hlt2⟩ := hown2.form (by omega)
      go_meet
      refine ⟨g2, cap2, rfl, Room.of_own hown2, fun g' e => ?_, (World.grownBy.trans (World.grownBy_alloc w _ _) hgrow).but row, .inl (by simp at hge; omega)⟩
      subst e
      obtain ⟨cur, q1, q2⟩ := Room.of_own HO1.out
      exact ⟨cur, (hgrow.block g' (Array.getElem?_eq_some_iff.1 q1).1 (by simp)).trans q1, q2⟩
  case rest =>
    obtain ⟨g2, cap, rfl, hr2, hrA, hg, hg2⟩ := hcut
    have Hr2 := Lib.hid hr2
    have HrA := Lib.hid hrA
    have Hg := Lib.hid hg
    have Hg2 := Lib.hid hg2
    clear hr2 hrA hg hg2
    go_wp2_with fail
    go_loopw [3] (fun x wr => ∃ i : Nat, i ≤ n + 1 ∧ x = .int .i64 i ∧ Room wr g2 (n + 1) ∧ (∀ g, A = some ⟨g, 0, none⟩ → Room wr g n) ∧ w.grownBy wr row) (fun x _ => n + 1 - (intOf x).toNat)
    case atStart => exact ⟨0, by omega, rfl, Hr2.out, HrA.out, Hg.out⟩
    case round =>
      obtain ⟨i, hi, rfl, k1, k2, k3⟩ := hrel
      by_cases hlt : i < n + 1
      · have ht := k1.there hlt
        have K1 := Lib.hid k1
        have K2 := Lib.hid k2
        have K3 := Lib.hid k3
        have hi0 : (0 : Int) ≤ (i : Int) := by omega
        have hi1 : (i : Int) < (n : Int) + 1 := by omega
        clear k1 k2 k3
        go_wp2_with fail
        go_round
        case rel => exact ⟨i + 1, by omega, by go_num, room_setCells _ _ _ K1.out, fun g e => room_setCells _ _ _ (K2.out g e), K3.out.andThen (grown_setCells _ _ _) (fun j e => by cases e; exact Hg2.out)⟩
        case measure => simp [intOf]; omega
      · have K2 := Lib.hid k2
        have K3 := Lib.hid k3
        have hi1 : ¬ ((i : Int) < (n : Int) + 1) := by omega
        have hie : i = n + 1 := by omega
        subst hie
        clear k1 k2 k3
        go_wp2_with fail
        go_loopw [4] (fun x wr => ∃ i : Nat, i ≤ n ∧ x = .int .i64 i ∧ (∀ g, A = some ⟨g, 0, none⟩ → Room wr g n) ∧ w.grownBy wr row) (fun x _ => n - (intOf x).toNat)
        case atStart => exact ⟨0, by omega, rfl, K2.out, K3.out⟩
        case round =>
          obtain ⟨i, hi, rfl, k2, k3⟩ := hrel
          by_cases hlt : i < n
          · obtain ⟨g, rfl⟩ : ∃ g, A = some ⟨g, 0, none⟩ := by
              rcases HAn.out with ⟨_, h1, h2⟩ | h
              · omega
              · exact h
            have ht := (k2 g rfl).there hlt
            have K2 := Lib.hid k2
            have K3 := Lib.hid k3
            have hi0 : (0 : Int) ≤ (i : Int) := by omega
            have hi1 : (i : Int) < (n : Int) := by omega
            clear k2 k3
            go_wp2_with fail
            go_round
            case rel => exact ⟨i + 1, by omega, by go_num, fun g' e => room_setCells _ _ _ (K2.out g' e), K3.out.andThen (grown_setCells _ _ _) (fun j e => by cases e; exact .inr (by rw [← HR.out]; rfl))⟩
            case measure => simp [intOf]; omega
          · have K3 := Lib.hid k3
            clear k2 k3
            have hi1 : ¬ ((i : Int) < (n : Int)) := by omega
            go_wp2
            go_end0
            exact ⟨rfl, K3.out⟩
theorem Ns.sub {w : World} {b o : Nat} {l1 l2 l3 : List Node} (h : Ns w (some ⟨b, o, none⟩) (l1 ++ (l2 ++ l3))) : Ns w (some ⟨b, o + l1.length * 24, none⟩) l2 := by
  intro hp
  obtain ⟨b', o', e, hn⟩ := h (by simp; omega)
  cases e
  refine ⟨b, o + l1.length * 24, rfl, fun i hi => ?_⟩
  have := hn (l1.length + i) (by simp; omega)
  rw [show o + (l1.length + i) * 24 = o + l1.length * 24 + i * 24 from by omega] at this
  rw [this]
  congr 1
  simp [List.getD_eq_getElem?_getD, List.getElem?_append_right, List.getElem?_append_left hi]
theorem Ns.take {w : World} {A : Option Addr} {l1 l2 : List Node} (h : Ns w A (l1 ++ l2)) : Ns w A l1 := by
  intro hp
  obtain ⟨b, o, e, hn⟩ := h (by simp; omega)
  refine ⟨b, o, e, fun i hi => ?_⟩
  rw [hn i (by simp; omega)]
  congr 1
  simp [List.getD_eq_getElem?_getD, List.getElem?_append_left hi]
theorem ns_new {w : World} {l : List Node} : Ns (w.alloc (.cells (flat l).toArray 40)) (some ⟨w.heap.size, 0, none⟩) l := by
  intro hp
  refine ⟨w.heap.size, 0, rfl, fun i hi => nodeAt_of fun j u hu => ?_⟩
  have := flat_news (heap_alloc_new w (.cells (flat l).toArray 40)) (i * 24 + j) u (flat_get hi hu)
  rw [add_plain] at this ⊢
  rwa [show 0 + i * 24 + j = 0 + (i * 24 + j) from by omega]
set_option maxHeartbeats 1000000 in
theorem kept_any (base g c : Nat) (A : Option Addr) (d : Nat) (ns : List Node) (w : World) (hown : OwnN w base (.slice (some ⟨g, 0, none⟩) (ns.length + 3) c) (ns ++ [mark, mark, mark])) (hA : Ns w A ns) (hn : ns.length ≤ 1954687338260) :
    Calls Try.prog 14 #[.slice (some ⟨g, 0, none⟩) ns.length c, .slice A ns.length d] w fun e w' => e = .returned (.bool true) ∧ w.grownBy w' (some g) := by
  have hcap : (ns.length : Int) + 3 ≤ (c : Int) := by
    have := own_cap hown
    simp at this
    omega
  obtain ⟨A', c', e, hNs⟩ := hown.ns
  have hl3 : (ns ++ [mark, mark, mark]).length = ns.length + 3 := by simp
  rw [hl3] at e
  cases e
  have h1 := hNs.take
  have h2 := Ns.sub (l3 := []) (by simpa using hNs)
  rw [Nat.zero_add] at h2
  have H1 := Lib.hid h1
  have H2 := Lib.hid h2
  have HA := Lib.hid hA
  have HO := Lib.hid hown
  have hc0 : ¬ (c = ns.length + 3 ∧ False) := by simp
  clear hown hNs h1 h2 hA hl3 hc0
  go_enter Try.func14, Try.ntmps14
  go_wp2_with fail
  refine (same_any _ _ _ _ ns ns _ H1.out HA.out (by omega) (by omega)).mono ?_
  rw [show decide (ns = ns) = true from by simp]
  rintro e w1 ⟨rfl, hB1⟩
  have HB1 := Lib.hid hB1
  clear hB1
  go_wp2_with fail
  have hB2 : Below w.heap.size w (w1.alloc (.cells (flat [mark, mark, mark]).toArray 40)) := HB1.out.alloc HB1.out.size _
  refine (same_any (some ⟨g, ns.length * 24, none⟩) (some ⟨w1.heap.size, 0, none⟩) (c - ns.length) 3 [mark, mark, mark] [mark, mark, mark] _ (H2.out.later hB2) ns_new (by simp) (by simp)).mono ?_
  rw [show decide ([mark, mark, mark] = [mark, mark, mark]) = true from by simp]
  rintro e w2 ⟨rfl, hB3⟩
  have hB4 : Below w.heap.size w w2 := hB2.trans (hB3.mono (by have := hB2.size; omega))
  have HB4 := Lib.hid hB4
  clear hB2 hB3 hB4 HB1
  go_wp2_with fail
  have hO2 : w2.ownsRow base 40 24 (.slice (some ⟨g, 0, none⟩) (ns.length + 3) c) (ns.length + 3) (flat (ns ++ [mark, mark, mark])) := by
    have := own_later HO.out (W := w2) fun b hb => HB4.out.block b (own_lt HO.out hb).2
    simpa using this
  refine (spoil_any base (some ⟨g, 0, none⟩) (ns.length + 3) c _ w2 hO2 (by omega)).mono ?_
  rintro e w3 ⟨rfl, hg⟩
  have HG := Lib.hid hg
  clear hg hO2
  go_wp2_with fail
  go_ret
  refine ⟨rfl, World.grownBy.trans ⟨HB4.out.os, HB4.out.tape, HB4.out.output, HB4.out.size, fun i hi _ => HB4.out.block i hi⟩ HG.out⟩
theorem low_nat (x : Int) : Go.bits .and .i64 x 9223372036854775807 = (((BitVec.ofInt 64 x).toNat % 2 ^ 63 : Nat) : Int) := by
  have h : (BitVec.ofInt 64 x &&& BitVec.ofInt 64 9223372036854775807).toNat = (BitVec.ofInt 64 x).toNat % 2 ^ 63 := by
    rw [BitVec.toNat_and, show (BitVec.ofInt 64 9223372036854775807).toNat = 2 ^ 63 - 1 from by decide, Nat.and_two_pow_sub_one_eq_mod]
  have h2 := Nat.mod_lt (BitVec.ofInt 64 x).toNat (show 0 < 2 ^ 63 by decide)
  show IntKind.wrap .i64 ((BitVec.ofInt 64 x &&& BitVec.ofInt 64 9223372036854775807).toNat : Int) = _
  rw [h]
  exact IntWalk.i64_in _ (by omega)
theorem low_nonneg (x : Int) : 0 ≤ Go.bits .and .i64 x 9223372036854775807 := by
  rw [low_nat]
  exact Int.natCast_nonneg _
theorem low_any (x : Int) (w : World) : Calls Try.prog 25 #[.int .i64 x] w fun e w' => e = .returned (.int .i64 (Go.bits .and .i64 x 9223372036854775807)) ∧ w = w' := by
  go_enter Try.func25, Try.ntmps25
  go_wp2
  go_ret
  exact ⟨rfl, rfl⟩
end Go.Proofs.Ytedhlofmkehfkaa
