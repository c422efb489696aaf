/- What the document makes of a node over its parts. -/
import Derived.Test.YtedhlofmkehfkaaRefD
namespace Go.Proofs.Ytedhlofmkehfkaa
open Go.RowKit Go.Shelf
set_option linter.unusedVariables false
set_option linter.unusedSimpArgs false

def partA (p : Part) : Array Value := #[.bool p.truth, .bool p.constant, .int .u32 p.value]
/-- A row of parts. -/
def Ks (w : World) (KA : Option Addr) (kids : List Part) : Prop := 0 < kids.length → ∃ b o, KA = some ⟨b, o, none⟩ ∧ ∀ i, i < kids.length → w.cell? ⟨b, o + i * 3, none⟩ = some (.bool (kids.getD i Part.zero).truth) ∧ w.cell? ⟨b, o + i * 3 + 1, none⟩ = some (.bool (kids.getD i Part.zero).constant) ∧ w.cell? ⟨b, o + i * 3 + 2, none⟩ = some (.int .u32 (kids.getD i Part.zero).value)
theorem Ks.later {w W : World} {KA : Option Addr} {kids : List Part} (h : Ks w KA kids) (hb : Below w.heap.size w W) : Ks W KA kids := by
  intro hp
  obtain ⟨b, o, e, hc⟩ := h hp
  exact ⟨b, o, e, fun i hi => ⟨(hb.cell (World.block_lt_of_cell? w _ (hc i hi).1)).trans (hc i hi).1, (hb.cell (World.block_lt_of_cell? w _ (hc i hi).2.1)).trans (hc i hi).2.1, (hb.cell (World.block_lt_of_cell? w _ (hc i hi).2.2)).trans (hc i hi).2.2⟩⟩
def nodeC (n : Node) (kids : List Part) : Int :=
  if unusedB n.kind n = false then 120 else if (madeL n (truthK n.kind) (wantsK n.kind) kids).2 ≠ 0 then (madeL n (truthK n.kind) (wantsK n.kind) kids).2 else rangesT n
theorem node_results (tmps : Array Value) (W : World) (B : Nat) (x y z c : Value) (hp : tmps.getD 4 undef = .pointer (some ⟨B, 0, none⟩)) (hc : tmps.getD 5 undef = c)
    (h : W.heap[B]? = some (.cells #[x, y, z] 49 (0, 0))) : (results Try.f36 tmps).run Try.prog W = .ok (.tuple #[.agg #[x, y, z], c]) W := by
  have hl := run_loadVar_row (P := Try.prog) W B 49 49 #[x, y, z] (0, 0) _ h Try.underlying49 rfl (by kernel_rfl)
  have hr : Try.f36.results = #[.cell 4 49, .tmp 5] := rfl
  have hp' : tmps[4]?.getD undef = .pointer (some ⟨B, 0, none⟩) := by simpa using hp
  have hc' : tmps[5]?.getD undef = c := by simpa using hc
  simp [results, hr, hp', hc', asAddr, hl]
theorem row_cells {w : World} {B : Nat} {t : TypeId} {x y z : Value} (h : w.heap[B]? = some (.cells #[x, y, z] t (0, 0))) : w.cell? ⟨B, 0, none⟩ = some x ∧ w.cell? ⟨B, 1, none⟩ = some y ∧ w.cell? ⟨B, 2, none⟩ = some z := by
  refine ⟨?_, ?_, ?_⟩ <;> rw [cell_of_row _ _ _ _ _ _ h] <;> rfl
theorem kidsBad_all {wa : Bool} {kids : List Part} (h : ∀ i, i < kids.length → (kids.getD i Part.zero).truth = wa) : kidsBad wa kids = false := by
  unfold kidsBad
  rw [List.any_eq_false]
  intro p hp
  obtain ⟨i, hi, rfl⟩ := List.getElem_of_mem hp
  have := h i hi
  rw [List.getD_eq_getElem?_getD, List.getElem?_eq_getElem hi] at this
  have this : kids[i].truth = wa := this
  simp [this]
theorem keepE {V V' : World} {a c d p : Addr} {v x y : Value} {n : Node} (h : V.cell? a = some v ∧ V.cell? c = some x ∧ V.cell? d = some y ∧ nodeAt V p = some n) (hb : Below V.heap.size V V') : V'.cell? a = some v ∧ V'.cell? c = some x ∧ V'.cell? d = some y ∧ nodeAt V' p = some n :=
  ⟨(hb.cell (World.block_lt_of_cell? V _ h.1)).trans h.1, (hb.cell (World.block_lt_of_cell? V _ h.2.1)).trans h.2.1, (hb.cell (World.block_lt_of_cell? V _ h.2.2.1)).trans h.2.2.1, nodeAt_later hb h.2.2.2⟩
theorem keepE1 {V : World} {b c q k : Nat} {u v x y : Value} {n : Node} (h : V.cell? ⟨b, 0, none⟩ = some v ∧ V.cell? ⟨b, 1, none⟩ = some x ∧ V.cell? ⟨b, 2, none⟩ = some y ∧ nodeAt V ⟨c, 0, none⟩ = some n) (h1 : b ≠ q) (h2 : c ≠ q) :
    (V.setCell ⟨q, k, none⟩ u).cell? ⟨b, 0, none⟩ = some v ∧ (V.setCell ⟨q, k, none⟩ u).cell? ⟨b, 1, none⟩ = some x ∧ (V.setCell ⟨q, k, none⟩ u).cell? ⟨b, 2, none⟩ = some y ∧ nodeAt (V.setCell ⟨q, k, none⟩ u) ⟨c, 0, none⟩ = some n := by
  have hb : (V.setCell ⟨q, k, none⟩ u).heap[b]? = V.heap[b]? := heap_setCell_other V ⟨q, k, none⟩ b u h1
  have hc : (V.setCell ⟨q, k, none⟩ u).heap[c]? = V.heap[c]? := heap_setCell_other V ⟨q, k, none⟩ c u h2
  exact ⟨(World.cell?_of_block (w := V) (a := ⟨b, 0, none⟩) hb).trans h.1, (World.cell?_of_block (w := V) (a := ⟨b, 1, none⟩) hb).trans h.2.1, (World.cell?_of_block (w := V) (a := ⟨b, 2, none⟩) hb).trans h.2.2.1, (nodeAt_congr hc).trans h.2.2.2⟩
theorem keepE3 {V : World} {b c q : Nat} {u0 u1 u2 v x y : Value} {n : Node} (h : V.cell? ⟨b, 0, none⟩ = some v ∧ V.cell? ⟨b, 1, none⟩ = some x ∧ V.cell? ⟨b, 2, none⟩ = some y ∧ nodeAt V ⟨c, 0, none⟩ = some n) (h1 : b ≠ q) (h2 : c ≠ q) :
    (((V.setCell ⟨q, 0, none⟩ u0).setCell ⟨q, 1, none⟩ u1).setCell ⟨q, 2, none⟩ u2).cell? ⟨b, 0, none⟩ = some v ∧ (((V.setCell ⟨q, 0, none⟩ u0).setCell ⟨q, 1, none⟩ u1).setCell ⟨q, 2, none⟩ u2).cell? ⟨b, 1, none⟩ = some x ∧ (((V.setCell ⟨q, 0, none⟩ u0).setCell ⟨q, 1, none⟩ u1).setCell ⟨q, 2, none⟩ u2).cell? ⟨b, 2, none⟩ = some y ∧ nodeAt (((V.setCell ⟨q, 0, none⟩ u0).setCell ⟨q, 1, none⟩ u1).setCell ⟨q, 2, none⟩ u2) ⟨c, 0, none⟩ = some n :=
  keepE1 (keepE1 (keepE1 h h1 h2) h1 h2) h1 h2
theorem allocS {w : World} {a b c : Addr} {x y z : Value} {o : Obj} (h1 : w.cell? a = some x) (h2 : w.cell? b = some y) (h3 : w.cell? c = some z) : (w.alloc o).drew.cell? a = some x ∧ (w.alloc o).drew.cell? b = some y ∧ (w.alloc o).drew.cell? c = some z :=
  have hb := ((Below.refl _ w).alloc (Nat.le_refl _) o).drew
  ⟨(hb.cell (World.block_lt_of_cell? w _ h1)).trans h1, (hb.cell (World.block_lt_of_cell? w _ h2)).trans h2, (hb.cell (World.block_lt_of_cell? w _ h3)).trans h3⟩
theorem keepG {V : World} {b c q k j1 j2 j3 : Nat} {u v x y : Value} (h : V.cell? ⟨b, j1, none⟩ = some v ∧ V.cell? ⟨c, j2, none⟩ = some x ∧ V.cell? ⟨c, j3, none⟩ = some y) (h1 : b ≠ q) (h2 : c ≠ q) :
    (V.setCell ⟨q, k, none⟩ u).cell? ⟨b, j1, none⟩ = some v ∧ (V.setCell ⟨q, k, none⟩ u).cell? ⟨c, j2, none⟩ = some x ∧ (V.setCell ⟨q, k, none⟩ u).cell? ⟨c, j3, none⟩ = some y := by
  have hb : (V.setCell ⟨q, k, none⟩ u).heap[b]? = V.heap[b]? := heap_setCell_other V ⟨q, k, none⟩ b u h1
  have hc : (V.setCell ⟨q, k, none⟩ u).heap[c]? = V.heap[c]? := heap_setCell_other V ⟨q, k, none⟩ c u h2
  exact ⟨(World.cell?_of_block (w := V) (a := ⟨b, j1, none⟩) hb).trans h.1, (World.cell?_of_block (w := V) (a := ⟨c, j2, none⟩) hc).trans h.2.1, (World.cell?_of_block (w := V) (a := ⟨c, j3, none⟩) hc).trans h.2.2⟩
theorem store_facts {W V : World} {B : Nat} {x y z : Value} {t : TypeId} (h : W.heap[B]? = some (.cells #[x, y, z] t (0, 0))) (hb : Below W.heap.size W V) :
    Hid (V.heap[B]? = some (.cells #[x, y, z] t (0, 0))) ∧ Hid (Below W.heap.size W V) ∧ V.cell? ⟨B, 0, none⟩ = some x ∧ V.cell? ⟨B, 1, none⟩ = some y ∧ V.cell? ⟨B, 2, none⟩ = some z ∧ V.frozen? ⟨B, 0, none⟩ = false ∧ V.frozen? ⟨B, 1, none⟩ = false ∧ V.frozen? ⟨B, 2, none⟩ = false := by
  have h2 := (hb.block _ (Array.getElem?_eq_some_iff.1 h).1).trans h
  obtain ⟨a, b, c⟩ := row_cells h2
  exact ⟨Lib.hid h2, Lib.hid hb, a, b, c, frozen_of_row V B 0 _ _ h2, frozen_of_row V B 1 _ _ h2, frozen_of_row V B 2 _ _ h2⟩
set_option maxRecDepth 100000 in
set_option maxHeartbeats 3200000 in
theorem node_any (n : Node) (kids : List Part) (KA : Option Addr) (kc : Nat) (w : World) (hby : n.bytes) (hnu : isU32 n.n) (hk : arityK n.kind = some kids.length) (hK : Ks w KA kids) (hu : ∀ p ∈ kids, isU32 p.value) (hz : ∀ p ∈ kids, p.constant = false → p.value = 0) :
    Calls Try.prog 36 #[.agg (enc n), .slice KA kids.length kc] w fun e w' => Below w.heap.size w w' ∧ ∃ q : Part, e = .returned (.tuple #[.agg (partA q), .int .i64 (nodeC n kids)]) ∧ (nodeC n kids = 0 → q = (madeL n (truthK n.kind) (wantsK n.kind) kids).1) := by
  obtain ⟨cc, hcc⟩ : ∃ c, nodeC n kids = c := ⟨_, rfl⟩
  obtain ⟨mp, hmp⟩ : ∃ c, (madeL n (truthK n.kind) (wantsK n.kind) kids).1 = c := ⟨_, rfl⟩
  rw [hcc, hmp]
  have Hcc := Lib.hid hcc
  have Hmp := Lib.hid hmp
  have Hby := Lib.hid hby
  have Hnu := Lib.hid hnu
  have HK := Lib.hid hK
  have Hu := Lib.hid hu
  have Hz := Lib.hid hz
  have Hk := Lib.hid hk
  have hal : (kids.length : Int) ≤ 2 := by have := (arityK_range hk).2.2; omega
  have hari := arI_some hk
  have Hari := Lib.hid hari
  clear hcc hmp hby hnu hK hu hz hk hari
  go_enter Try.func36, Try.ntmps36
  go_wp2_with fail
  refine (refarity_any _ _).mono ?_
  rw [Hari.out]
  rintro e w1 ⟨rfl, rfl⟩
  go_wp2_with fail
  have hn1 : nodeAt ((w.alloc (.cells (enc n) 40)).alloc (.cells #[.bool false, .bool false, .int .u32 0] 49)) ⟨w.heap.size, 0, none⟩ = some n := by
    rw [nodeAt_alloc _ (by simp)]
    exact nodeAt_new w n _
  have hr1 : ((w.alloc (.cells (enc n) 40)).alloc (.cells #[.bool false, .bool false, .int .u32 0] 49)).heap[w.heap.size + 1]? = some (.cells #[.bool false, .bool false, .int .u32 0] 49 (0, 0)) := by
    have := heap_alloc_new (w.alloc (.cells (enc n) 40)) (.cells #[.bool false, .bool false, .int .u32 0] 49)
    simpa using this
  have hb1 : Below w.heap.size w ((w.alloc (.cells (enc n) 40)).alloc (.cells #[.bool false, .bool false, .int .u32 0] 49)) := ((Below.refl _ w).alloc (Nat.le_refl _) _).alloc (by simp) _
  refine (form_any n _).mono ?_
  rintro e w2 ⟨rfl, hB2⟩
  have hn2 := nodeAt_later hB2 hn1
  have hr2 : w2.heap[w.heap.size + 1]? = _ := (hB2.block _ (Array.getElem?_eq_some_iff.1 hr1).1).trans hr1
  have HB2 := Lib.hid (hb1.trans (hB2.mono hb1.size))
  have Hn2 := Lib.hid hn2
  have Hr2 := Lib.hid hr2
  obtain ⟨q0, q1, q2⟩ := row_cells hr2
  have f0 := frozen_of_row w2 (w.heap.size + 1) 0 _ _ hr2
  have f1 := frozen_of_row w2 (w.heap.size + 1) 1 _ _ hr2
  have f2 := frozen_of_row w2 (w.heap.size + 1) 2 _ _ hr2
  have hw1 : w.heap.size + 1 < w2.heap.size := (Array.getElem?_eq_some_iff.1 hr2).1
  have hw0 : w.heap.size < w2.heap.size := by omega
  have c0 := node_cell hn2 (j := 0) rfl
  have c1 := node_cell hn2 (j := 1) rfl
  have c2 := node_cell hn2 (j := 2) rfl
  have hfb : ((arityK n.kind).isSome && unusedB n.kind n) = unusedB n.kind n := by rw [Hk.out]; simp
  rw [hfb]
  obtain ⟨fb, hfbe⟩ : ∃ x, unusedB n.kind n = x := ⟨_, rfl⟩
  rw [hfbe]
  have Hfb := Lib.hid hfbe
  clear hn1 hr1 hb1 hB2 hn2 hr2 hfb hfbe
  cases fb with
  | false =>
    have hc : cc = 120 := by rw [← Hcc.out]; unfold nodeC; rw [if_pos Hfb.out]
    subst hc
    go_wp2_with fail
    refine bodyPost_ret (node_results _ _ _ _ _ _ _ rfl rfl (row3 Hr2.out _ _ _)) rfl ⟨?_, Part.zero, rfl, fun h => by cases h⟩
    exact ((HB2.out.setCell (by simp) _).setCell (by simp) _).setCell (by simp) _
  | true =>
    go_wp2_with fail
    go_loopw [6] (fun x wr => ∃ i : Nat, i ≤ kids.length ∧ x = .int .i64 i ∧ (∀ j, j < i → (kids.getD j Part.zero).truth = wantsK n.kind) ∧ w2 = wr) (fun x _ => kids.length - (intOf x).toNat)
    case atStart => exact ⟨0, by omega, rfl, fun j hj => by omega, rfl⟩
    case round =>
      obtain ⟨i, hi, rfl, hall, rfl⟩ := hrel
      have Hall := Lib.hid hall
      clear hall
      by_cases hlt : i < kids.length
      · obtain ⟨kb, ko, rfl, hcs⟩ := (HK.out.later HB2.out) (by omega)
        obtain ⟨k0, _, _⟩ := hcs i hlt
        obtain ⟨t, ht⟩ : ∃ x, (kids.getD i Part.zero).truth = x := ⟨_, rfl⟩
        obtain ⟨wa, hwa⟩ : ∃ x, wantsK n.kind = x := ⟨_, rfl⟩
        rw [ht] at k0
        have Ht := Lib.hid ht
        have Hwa := Lib.hid hwa
        have i1 : (i : Int) < (kids.length : Int) := by omega
        have i2 : (0 : Int) ≤ (i : Int) := by omega
        have Hi := Lib.hid hlt
        clear hcs ht hwa hlt
        have bad : t ≠ wa → (madeL n (truthK n.kind) (wantsK n.kind) kids).2 = if wa then 121 else 122 := fun h => by
          rw [Hwa.out]
          unfold madeL
          rw [kidsBad_of Hi.out (by rw [Ht.out]; exact h), if_pos rfl]
        have Bad := Lib.hid bad
        clear bad
        cases t with
        | true =>
          go_wp2_with fail
          refine (wants_any _ _).mono ?_
          rw [Hwa.out]
          rintro e w3 ⟨rfl, rfl⟩
          cases wa with
          | true =>
            go_wp2_with fail
            go_round
            case rel =>
              have := Hi.out
              refine ⟨i + 1, by omega, by go_num, fun j hj => ?_, by first | rfl | trivial⟩
              by_cases hji : j = i
              · subst hji; rw [Ht.out, Hwa.out]
              · exact Hall.out j (by omega)
            case measure => have := Hi.out; simp [intOf]; omega
          | false =>
            have hc : cc = 122 := by
              have hb := Bad.out (by simp)
              rw [← Hcc.out]
              unfold nodeC
              rw [if_neg (by rw [Hfb.out]; simp), if_pos (by rw [hb]; decide), hb]
              rfl
            subst hc
            go_wp2_with fail
            refine bodyPost_ret (node_results _ _ _ _ _ _ _ rfl rfl (row3 Hr2.out _ _ _)) rfl ⟨?_, Part.zero, rfl, fun h => by cases h⟩
            exact ((HB2.out.setCell (by simp) _).setCell (by simp) _).setCell (by simp) _
        | false =>
          go_wp2_with fail
          refine (wants_any _ _).mono ?_
          rw [Hwa.out]
          rintro e w3 ⟨rfl, rfl⟩
          cases wa with
          | false =>
            go_wp2_with fail
            go_round
            case rel =>
              have := Hi.out
              refine ⟨i + 1, by omega, by go_num, fun j hj => ?_, by first | rfl | trivial⟩
              by_cases hji : j = i
              · subst hji; rw [Ht.out, Hwa.out]
              · exact Hall.out j (by omega)
            case measure => have := Hi.out; simp [intOf]; omega
          | true =>
            have hc : cc = 121 := by
              have hb := Bad.out (by simp)
              rw [← Hcc.out]
              unfold nodeC
              rw [if_neg (by rw [Hfb.out]; simp), if_pos (by rw [hb]; decide), hb]
              rfl
            subst hc
            go_wp2_with fail
            refine bodyPost_ret (node_results _ _ _ _ _ _ _ rfl rfl (row3 Hr2.out _ _ _)) rfl ⟨?_, Part.zero, rfl, fun h => by cases h⟩
            exact ((HB2.out.setCell (by simp) _).setCell (by simp) _).setCell (by simp) _
      · have hil : i = kids.length := by omega
        subst hil
        have hkb := kidsBad_all Hall.out
        have Hkb := Lib.hid hkb
        have hi1 : ¬ ((kids.length : Int) < (kids.length : Int)) := by omega
        clear hkb hlt hi
        go_wp2_with fail
        refine (truth_any _ _).mono ?_
        rintro e w3 ⟨rfl, rfl⟩
        go_upto_block 2 with fail
        have hM : madeL n (truthK n.kind) (wantsK n.kind) kids = if n.kind = 1 then (⟨truthK n.kind, true, n.n⟩, 0) else if n.kind = 5 then (⟨truthK n.kind, (kids.getD 0 Part.zero).constant, -(kids.getD 0 Part.zero).value % 4294967296⟩, 0)
          else if n.kind = 4 then
            (if (n.op = 4 ∨ n.op = 5) ∧ (kids.getD 1 Part.zero).constant = true ∧ (kids.getD 1 Part.zero).value = 0 then (⟨truthK n.kind, false, 0⟩, 123)
             else if (kids.getD 0 Part.zero).constant = true ∧ (kids.getD 1 Part.zero).constant = true then (⟨truthK n.kind, true, reckon n.op (kids.getD 0 Part.zero).value (kids.getD 1 Part.zero).value⟩, 0)
             else (⟨truthK n.kind, false, 0⟩, 0))
          else (⟨truthK n.kind, false, 0⟩, 0) := by
          show (if kidsBad (wantsK n.kind) kids then _ else _) = _
          rw [Hkb.out, if_neg (by simp)]
        have HM := Lib.hid hM
        have hcm : ∀ q, madeL n (truthK n.kind) (wantsK n.kind) kids = (q, 0) → mp = q ∧ cc = rangesT n := fun q h => by
          refine ⟨by rw [← Hmp.out, h], ?_⟩
          rw [← Hcc.out]
          unfold nodeC
          rw [if_neg (by rw [Hfb.out]; simp), h, if_neg (by simp)]
        have Hcm := Lib.hid hcm
        have hrow : (w2.alloc (.cells #[.bool (truthK n.kind), .bool false, .int .u32 0] 49)).heap[w2.heap.size]? = some (.cells #[.bool (truthK n.kind), .bool false, .int .u32 0] 49 (0, 0)) := heap_alloc_new w2 _
        have Hrow := Lib.hid hrow
        clear hM hcm hrow
        go_upto_block 2 with fail
        go_cut [7] (fun s7 W => s7 = .pointer (some ⟨w2.heap.size, 0, none⟩) ∧ ∃ fx v, W.heap[w2.heap.size]? = some (.cells #[.bool (truthK n.kind), .bool fx, .int .u32 v] 49 (0, 0)) ∧ Below w2.heap.size w2 W ∧ (fx = true → mp = ⟨truthK n.kind, true, v⟩) ∧ (fx = false → mp = ⟨truthK n.kind, false, 0⟩) ∧ cc = rangesT n)
        case first =>
          by_cases k1 : n.kind = 1
          · have hm := HM.out
            rw [if_pos k1] at hm
            obtain ⟨hm1, hm2⟩ := Hcm.out _ hm
            have Hm1 := Lib.hid hm1
            have Hm2 := Lib.hid hm2
            have k1' : (n.kind == 1) = true := by simpa using k1
            clear hm hm1 hm2 k1
            go_wp2_with fail
            go_meet
            exact ⟨rfl, true, n.n, heap_alloc_new w2 _, (Below.refl _ w2).alloc (Nat.le_refl _) _, fun _ => Hm1.out, (fun h => by cases h), Hm2.out⟩
          have k1' : (n.kind == 1) = false := by simpa using k1
          by_cases k5 : n.kind = 5
          · have hm := HM.out
            rw [if_neg k1, if_pos k5] at hm
            have hkl : kids.length = 1 := by
              have h := Hk.out
              rw [k5] at h
              have h : some 1 = some kids.length := h
              exact (Option.some.inj h).symm
            obtain ⟨kb, ko, rfl, hcs⟩ := (HK.out.later HB2.out) (by omega)
            obtain ⟨_, x1, x2⟩ := hcs 0 (by omega)
            have hmem : kids.getD 0 Part.zero ∈ kids := by rw [List.getD_eq_getElem?_getD, List.getElem?_eq_getElem (by omega)]; exact List.getElem_mem _
            have hux := Hu.out _ hmem
            have hzx := Hz.out _ hmem
            have Hkl := Lib.hid hkl
            obtain ⟨x, hx⟩ : ∃ x, kids.getD 0 Part.zero = x := ⟨_, rfl⟩
            rw [hx] at x1 x2 hm hux hzx
            obtain ⟨xt, xc, xv⟩ := x
            simp only [Nat.zero_mul, Nat.add_zero] at x1 x2
            obtain ⟨hm1, hm2⟩ := Hcm.out _ hm
            have Hm1 := Lib.hid hm1
            have Hm2 := Lib.hid hm2
            have Hzx := Lib.hid hzx
            have i0 : (0 : Int) < (kids.length : Int) := by omega
            have k5' : (n.kind == 5) = true := by simpa using k5
            obtain ⟨u0, u1⟩ := hux
            have hkb2 : kb < w2.heap.size := World.block_lt_of_cell? w2 _ (hcs 0 (by omega)).1
            have hkbn : ¬ kb = w2.heap.size := by omega
            clear hcs hmem hzx hx hm hm1 hm2 k5 k1 hkl
            cases xc with
            | true =>
              go_wp2_with fail
              go_meet
              exact ⟨rfl, true, _, heap_alloc_new w2 _, (Below.refl _ w2).alloc (Nat.le_refl _) _, fun _ => Hm1.out, (fun h => by cases h), Hm2.out⟩
            | false =>
              have hv0 : xv = 0 := Hzx.out rfl
              subst hv0
              go_wp2_with fail
              go_meet
              exact ⟨rfl, false, _, heap_alloc_new w2 _, (Below.refl _ w2).alloc (Nat.le_refl _) _, (fun h => by cases h), fun _ => Hm1.out, Hm2.out⟩
          have k5' : (n.kind == 5) = false := by simpa using k5
          by_cases k4 : n.kind = 4
          · have hm := HM.out
            rw [if_neg k1, if_neg k5, if_pos k4] at hm
            have hkl : kids.length = 2 := by
              have h := Hk.out
              rw [k4] at h
              have h : some 2 = some kids.length := h
              exact (Option.some.inj h).symm
            have hop : 1 ≤ n.op ∧ n.op ≤ 10 := by
              have h := Hfb.out
              rw [k4] at h
              have h : (onlyB (fun n => { n with op := 0 }) n && inR n.op 1 10) = true := h
              simp only [Bool.and_eq_true, inR, decide_eq_true_eq] at h
              exact h.2
            obtain ⟨kb, ko, rfl, hcs⟩ := (HK.out.later HB2.out) (by omega)
            obtain ⟨_, x1, x2⟩ := hcs 0 (by omega)
            obtain ⟨_, y1, y2⟩ := hcs 1 (by omega)
            have hkb2 : kb < w2.heap.size := World.block_lt_of_cell? w2 _ (hcs 0 (by omega)).1
            have hkbn : ¬ kb = w2.heap.size := by omega
            have hmx : kids.getD 0 Part.zero ∈ kids := by rw [List.getD_eq_getElem?_getD, List.getElem?_eq_getElem (by omega)]; exact List.getElem_mem _
            have hmy : kids.getD 1 Part.zero ∈ kids := by rw [List.getD_eq_getElem?_getD, List.getElem?_eq_getElem (by omega)]; exact List.getElem_mem _
            have hux := Hu.out _ hmx
            have huy := Hu.out _ hmy
            obtain ⟨x, hx⟩ : ∃ x, kids.getD 0 Part.zero = x := ⟨_, rfl⟩
            obtain ⟨y, hy⟩ : ∃ x, kids.getD 1 Part.zero = x := ⟨_, rfl⟩
            rw [hx] at x1 x2 hm hux
            rw [hy] at y1 y2 hm huy
            obtain ⟨xt, xc, xv⟩ := x
            obtain ⟨yt, yc, yv⟩ := y
            simp only [Nat.zero_mul, Nat.one_mul, Nat.add_zero, Nat.add_assoc, Nat.reduceAdd] at x1 x2 y1 y2
            have i0 : (0 : Int) < (kids.length : Int) := by omega
            have i1 : (1 : Int) < (kids.length : Int) := by omega
            have k4' : (n.kind == 4) = true := by simpa using k4
            have Hux := Lib.hid hux
            have Huy := Lib.hid huy
            have Hop := Lib.hid hop
            simp only at hm
            clear hcs hmx hmy hx hy k1 k5 k4 hkl hux huy hop
            have Hmm := Lib.hid hm
            clear hm
            go_upto_region 19 with fail
            go_cut [97] (fun s97 W => s97 = .bool (decide ((n.op = 4 ∨ n.op = 5) ∧ yc = true ∧ yv = 0)) ∧ W = (w2.alloc (.cells #[.bool (truthK n.kind), .bool false, .int .u32 0] 49)))
            case first =>
              by_cases o4 : n.op = 4
              · rw [o4] at c1
                cases yc with
                | true =>
                  go_wp2_with fail
                  go_meet
                  refine ⟨?_, rfl⟩
                  by_cases hy : yv = 0 <;> simp [o4, hy]
                | false =>
                  go_wp2_with fail
                  go_meet
                  exact ⟨by simp, rfl⟩
              by_cases o5 : n.op = 5
              · rw [o5] at c1
                clear o4
                cases yc with
                | true =>
                  go_wp2_with fail
                  go_meet
                  refine ⟨?_, rfl⟩
                  by_cases hy : yv = 0 <;> simp [o5, hy]
                | false =>
                  go_wp2_with fail
                  go_meet
                  exact ⟨by simp, rfl⟩
              have o4' : (n.op == 4) = false := by simpa using o4
              have o5' : (n.op == 5) = false := by simpa using o5
              have hd : decide ((n.op = 4 ∨ n.op = 5) ∧ yc = true ∧ yv = 0) = false := decide_eq_false fun h => h.1.elim o4 o5
              have Hd := Lib.hid hd
              clear o4 o5 hd
              go_wp2_with fail
              go_meet
              exact ⟨by rw [Hd.out], rfl⟩
            case rest =>
              obtain ⟨rfl, rfl⟩ := hcut
              have hm := Hmm.out
              by_cases hbad : (n.op = 4 ∨ n.op = 5) ∧ yc = true ∧ yv = 0
              · rw [if_pos hbad] at hm
                have hdd : decide ((n.op = 4 ∨ n.op = 5) ∧ yc = true ∧ yv = 0) = true := decide_eq_true hbad
                rw [hdd]
                have hc : cc = 123 := by
                  rw [← Hcc.out]
                  unfold nodeC
                  rw [if_neg (by rw [Hfb.out]; simp), hm, if_pos (by show (123 : Int) ≠ 0; decide)]
                subst hc
                clear hm hbad hdd
                go_wp2_with fail
                have hrz : ((((w2.setCell ⟨w.heap.size + 1, 0, none⟩ (.bool false)).setCell ⟨w.heap.size + 1, 1, none⟩ (.bool false)).setCell ⟨w.heap.size + 1, 2, none⟩ (.int .u32 0)).alloc (.cells #[.bool (truthK n.kind), .bool false, .int .u32 0] 49)).heap[w.heap.size + 1]? = some (.cells #[.bool false, .bool false, .int .u32 0] 49 (0, 0)) := (Below.heap_alloc _ _ _ (by simp; omega)).trans (row3 Hr2.out _ _ _)
                refine bodyPost_ret (node_results _ _ (w.heap.size + 1) (.bool false) (.bool false) (.int .u32 0) (.int .i64 123) rfl rfl hrz) rfl ⟨?_, Part.zero, rfl⟩
                have hbx := ((HB2.out.setCell (p := ⟨w.heap.size + 1, 0, none⟩) (by simp) (.bool false)).setCell (p := ⟨w.heap.size + 1, 1, none⟩) (by simp) (.bool false)).setCell (p := ⟨w.heap.size + 1, 2, none⟩) (by simp) (.int .u32 0)
                exact hbx.alloc hbx.size _
              · rw [if_neg hbad] at hm
                have hdd : decide ((n.op = 4 ∨ n.op = 5) ∧ yc = true ∧ yv = 0) = false := decide_eq_false hbad
                rw [hdd]
                have hzz : yc = true → n.op = 4 ∨ n.op = 5 → yv ≠ 0 := fun hy ho hv => hbad ⟨ho, hy, hv⟩
                have Hzz := Lib.hid hzz
                clear hbad hdd hzz
                cases xc with
                | false =>
                  rw [if_neg (by simp)] at hm
                  obtain ⟨hm1, hm2⟩ := Hcm.out _ hm
                  have Hm1 := Lib.hid hm1
                  have Hm2 := Lib.hid hm2
                  clear hm hm1 hm2
                  go_wp2_with fail
                  go_meet
                  exact ⟨rfl, false, 0, heap_alloc_new w2 _, (Below.refl _ w2).alloc (Nat.le_refl _) _, (fun h => by cases h), fun _ => Hm1.out, Hm2.out⟩
                | true =>
                  cases yc with
                  | false =>
                    rw [if_neg (by simp)] at hm
                    obtain ⟨hm1, hm2⟩ := Hcm.out _ hm
                    have Hm1 := Lib.hid hm1
                    have Hm2 := Lib.hid hm2
                    clear hm hm1 hm2
                    go_wp2_with fail
                    go_meet
                    exact ⟨rfl, false, 0, heap_alloc_new w2 _, (Below.refl _ w2).alloc (Nat.le_refl _) _, (fun h => by cases h), fun _ => Hm1.out, Hm2.out⟩
                  | true =>
                    rw [if_pos ⟨rfl, rfl⟩] at hm
                    obtain ⟨hm1, hm2⟩ := Hcm.out _ hm
                    have Hm1 := Lib.hid hm1
                    have Hm2 := Lib.hid hm2
                    have har : ∀ W, Calls Try.prog 74 #[.int .i64 n.op, .int .u32 xv, .int .u32 yv] W fun e w' => e = .returned (.tuple #[.int .u32 (reckon n.op xv yv), .bool true]) ∧ W = w' := fun W => arith_any n.op xv yv Hux.out Huy.out Hop.out (Hzz.out rfl) W
                    have Har := Lib.hid har
                    have Hc1 := Lib.hid (((Below.refl _ w2).alloc (Nat.le_refl _) (.cells #[.bool (truthK n.kind), .bool true, .int .u32 0] 49)))
                    have C1 := Lib.hid c1
                    have C2 := Lib.hid x2
                    have C3 := Lib.hid y2
                    have j0 : 0 < kids.length := by omega
                    have j1 : 1 < kids.length := by omega
                    have j2 : ¬ kids = [] := fun e => by rw [e] at j0; cases j0
                    have hrw := heap_alloc_new w2 (.cells #[.bool (truthK n.kind), .bool true, .int .u32 0] 49)
                    have z4 : (w2.alloc (.cells #[.bool (truthK n.kind), .bool true, .int .u32 0] 49)).drew.cell? ⟨w2.heap.size, 2, none⟩ = some (.int .u32 0) := (row_cells (w := (w2.alloc (.cells #[.bool (truthK n.kind), .bool true, .int .u32 0] 49))) hrw).2.2
                    have z5 : (w2.alloc (.cells #[.bool (truthK n.kind), .bool true, .int .u32 0] 49)).drew.frozen? ⟨w2.heap.size, 2, none⟩ = false := frozen_of_row (w2.alloc (.cells #[.bool (truthK n.kind), .bool true, .int .u32 0] 49)) w2.heap.size 2 _ _ hrw
                    have hq1 : w.heap.size ≠ w2.heap.size := by omega
                    clear hm hm1 hm2 har hrw
                    go_upto_region 23 with fail
                    clear q0 q1 q2 f0 f1 f2 c0 c1 c2 x1 y1
                    go_region_held3 (fun w' => w'.cell? ⟨w.heap.size, 1, none⟩ = some (.int .i64 n.op) ∧ w'.cell? ⟨kb, ko + 2, none⟩ = some (.int .u32 xv) ∧ w'.cell? ⟨kb, ko + 5, none⟩ = some (.int .u32 yv))
                      (first | exact allocS C1.out C2.out C3.out | assumption)
                      (first | (go_at_call 74; refine (Har.out _).mono ?_; rintro e V ⟨rfl, rfl⟩))
                    all_goals
                      go_wp2_with fail
                      go_meet
                      exact ⟨rfl, true, _, heap_alloc_new w2 _, ((Below.refl _ w2).alloc (Nat.le_refl _) _).drew, fun _ => Hm1.out, (fun h => by cases h), Hm2.out⟩
          have hm := HM.out
          rw [if_neg k1, if_neg k5, if_neg k4] at hm
          obtain ⟨hm1, hm2⟩ := Hcm.out _ hm
          have Hm1 := Lib.hid hm1
          have Hm2 := Lib.hid hm2
          have k4' : (n.kind == 4) = false := by simpa using k4
          clear hm hm1 hm2 k1 k4 k5
          go_wp2_with fail
          go_meet
          exact ⟨rfl, false, _, heap_alloc_new w2 _, (Below.refl _ w2).alloc (Nat.le_refl _) _, (fun h => by cases h), fun _ => Hm1.out, Hm2.out⟩
        case rest =>
          obtain ⟨rfl, fx, v, hrw, hBc, hf1, hf0, hcr⟩ := hcut
          have Hrw := Lib.hid hrw
          have HBc := Lib.hid (HB2.out.trans (hBc.mono HB2.out.size))
          have Hnc := Lib.hid (nodeAt_later hBc Hn2.out)
          have Hrc := Lib.hid (show wc.heap[w.heap.size + 1]? = _ from (hBc.block _ hw1).trans Hr2.out)
          have Hf1 := Lib.hid hf1
          have Hf0 := Lib.hid hf0
          have Hcr := Lib.hid hcr
          have Hs2 := Lib.hid (show w2.heap.size < wc.heap.size from (Array.getElem?_eq_some_iff.1 hrw).1)
          obtain ⟨r0, r1, r2⟩ := row_cells hrw
          have g2 := frozen_of_row wc w2.heap.size 2 _ _ hrw
          clear hrw hBc hf1 hf0 hcr q0 q1 q2 f0 f1 f2 c0 c1 c2
          have hRG : ∀ W, Calls Try.prog 75 #[.agg (enc n)] W fun e w' => e = .returned (.int .i64 cc) ∧ Below W.heap.size W w' := fun W => by rw [Hcr.out]; exact ranges_any n W Hby.out
          have HRG := Lib.hid hRG
          clear hRG
          cases fx with
          | true =>
            have HMp := Lib.hid (Hf1.out rfl)
            have hq0 := r0
            have hq1 := r1
            have hq2 := r2
            have hnX := Hnc.out
            have HrX := Lib.hid (show wc.drew.heap[w.heap.size + 1]? = _ from Hrc.out)
            have HBX := Lib.hid (show Below w.heap.size w wc.drew from HBc.out.drew)
            go_upto_region 26 with fail
            clear r0 r1 r2 g2
            have r0' : (wc).drew.cell? ⟨w2.heap.size, 0, none⟩ = some (.bool (truthK n.kind)) := hq0
            have r1' : (wc).drew.cell? ⟨w2.heap.size, 1, none⟩ = some (.bool true) := hq1
            have r2' : (wc).drew.cell? ⟨w2.heap.size, 2, none⟩ = some (.int .u32 v) := hq2
            have HND := Lib.hid hnX
            have hne2 : w2.heap.size ≠ w.heap.size + 1 := by omega
            have hne3 : w.heap.size ≠ w.heap.size + 1 := by omega
            clear hq0 hq1 hq2 hnX
            go_region_held3 (fun w' => w'.cell? ⟨w2.heap.size, 0, none⟩ = some (.bool (truthK n.kind)) ∧ w'.cell? ⟨w2.heap.size, 1, none⟩ = some (.bool true) ∧ w'.cell? ⟨w2.heap.size, 2, none⟩ = some (.int .u32 v) ∧ nodeAt w' ⟨w.heap.size, 0, none⟩ = some n)
              (first | exact ⟨r0', r1', r2', HND.out⟩ | exact keepE (by assumption) HV.out | exact keepE3 (by assumption) hne2 hne3 | assumption)
              (first | (go_at_call 75; refine (HRG.out _).mono ?_; rintro e V ⟨rfl, hV⟩; obtain ⟨HrV, HV, e0, e1, e2, g0, g1, g3⟩ := store_facts HrX.out hV; clear hV))
            all_goals
              go_wp2_with fail
              refine bodyPost_ret (node_results _ _ _ _ _ _ _ rfl rfl (row3 HrV.out _ _ _)) rfl ⟨?_, ⟨truthK n.kind, true, v⟩, rfl, fun _ => HMp.out.symm⟩
              exact (((HBX.out.trans (HV.out.mono HBX.out.size)).setCell (by simp) _).setCell (by simp) _).setCell (by simp) _
          | false =>
            have HMp := Lib.hid (Hf0.out rfl)
            have hrw2 := heap_setCell_same wc w2.heap.size 2 _ _ (.int .u32 0) Hrw.out
            obtain ⟨hq0, hq1, hq2⟩ : (wc.setCell ⟨w2.heap.size, 2, none⟩ (.int .u32 0)).cell? ⟨w2.heap.size, 0, none⟩ = some (.bool (truthK n.kind)) ∧ (wc.setCell ⟨w2.heap.size, 2, none⟩ (.int .u32 0)).cell? ⟨w2.heap.size, 1, none⟩ = some (.bool false) ∧ (wc.setCell ⟨w2.heap.size, 2, none⟩ (.int .u32 0)).cell? ⟨w2.heap.size, 2, none⟩ = some (.int .u32 0) := row_cells hrw2
            have hnX : nodeAt (wc.setCell ⟨w2.heap.size, 2, none⟩ (.int .u32 0)) ⟨w.heap.size, 0, none⟩ = some n := by rw [nodeAt_setCell _ (by show w.heap.size ≠ w2.heap.size; omega)]; exact Hnc.out
            have HrX := Lib.hid (show (wc.setCell ⟨w2.heap.size, 2, none⟩ (.int .u32 0)).drew.heap[w.heap.size + 1]? = _ from (heap_setCell_other _ _ _ _ (by show w.heap.size + 1 ≠ w2.heap.size; omega)).trans Hrc.out)
            have HBX := Lib.hid (show Below w.heap.size w (wc.setCell ⟨w2.heap.size, 2, none⟩ (.int .u32 0)).drew from (HBc.out.setCell (by show w.heap.size ≤ w2.heap.size; omega) _).drew)
            go_upto_region 26 with fail
            clear r0 r1 r2 g2 hrw2
            have r0' : (wc.setCell ⟨w2.heap.size, 2, none⟩ (.int .u32 0)).drew.cell? ⟨w2.heap.size, 0, none⟩ = some (.bool (truthK n.kind)) := hq0
            have r1' : (wc.setCell ⟨w2.heap.size, 2, none⟩ (.int .u32 0)).drew.cell? ⟨w2.heap.size, 1, none⟩ = some (.bool false) := hq1
            have r2' : (wc.setCell ⟨w2.heap.size, 2, none⟩ (.int .u32 0)).drew.cell? ⟨w2.heap.size, 2, none⟩ = some (.int .u32 0) := hq2
            have HND := Lib.hid hnX
            have hne2 : w2.heap.size ≠ w.heap.size + 1 := by omega
            have hne3 : w.heap.size ≠ w.heap.size + 1 := by omega
            clear hq0 hq1 hq2 hnX
            go_region_held3 (fun w' => w'.cell? ⟨w2.heap.size, 0, none⟩ = some (.bool (truthK n.kind)) ∧ w'.cell? ⟨w2.heap.size, 1, none⟩ = some (.bool false) ∧ w'.cell? ⟨w2.heap.size, 2, none⟩ = some (.int .u32 0) ∧ nodeAt w' ⟨w.heap.size, 0, none⟩ = some n)
              (first | exact ⟨r0', r1', r2', HND.out⟩ | exact keepE (by assumption) HV.out | exact keepE3 (by assumption) hne2 hne3 | assumption)
              (first | (go_at_call 75; refine (HRG.out _).mono ?_; rintro e V ⟨rfl, hV⟩; obtain ⟨HrV, HV, e0, e1, e2, g0, g1, g3⟩ := store_facts HrX.out hV; clear hV))
            all_goals
              go_wp2_with fail
              refine bodyPost_ret (node_results _ _ _ _ _ _ _ rfl rfl (row3 HrV.out _ _ _)) rfl ⟨?_, ⟨truthK n.kind, false, 0⟩, rfl, fun _ => HMp.out.symm⟩
              exact (((HBX.out.trans (HV.out.mono HBX.out.size)).setCell (by simp) _).setCell (by simp) _).setCell (by simp) _
end Go.Proofs.Ytedhlofmkehfkaa
