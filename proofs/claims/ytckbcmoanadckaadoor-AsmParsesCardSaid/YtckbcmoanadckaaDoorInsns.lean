/- Lists of instructions: SameInsns, SpoilInsns, CopyInsns. -/
import Derived.Test.YtckbcmoanadckaaDoorAwake
import Derived.Deep.RegionHeld3
import Derived.WalkSpells
import Derived.Deep.QuietTactic
import Derived.BigQuiet
import Derived.Deep.DeepCutAuto
import Derived.Great.BuildSlice
import Derived.WalkLawsBesides
namespace Go.Proofs.YtckbcmoanadckaaDoor
open Go.RowKit Go.Shelf
set_option linter.unusedVariables false
set_option linter.unusedSimpArgs false

abbrev markI : Ins := ⟨7, 0, 0, 77⟩
set_option maxHeartbeats 1000000 in
theorem same_any (A B : Option Addr) (c d : Nat) (xs ys : List Ins) (w : World) (hA : Rs encN w A xs) (hB : Rs encN w B ys) (hl : xs.length ≤ 4611686018427387904) (hl2 : ys.length ≤ 4611686018427387904) :
    Calls Tryd.prog 18 #[.slice A xs.length c, .slice B ys.length d] w fun e w' => e = .returned (.bool (decide (xs = ys))) ∧ Below w.heap.size w w' := by
  by_cases hlen : xs.length = ys.length
  · have HA := Lib.hid hA
    have HB := Lib.hid hB
    have Hlen := Lib.hid hlen
    clear hA hB
    rw [← hlen]
    clear hlen
    go_enter Tryd.func18, Tryd.ntmps18
    go_wp2_with fail
    go_loopw [5] (fun x wr => ∃ i : Nat, i ≤ xs.length ∧ x = .int .i64 i ∧ xs.take i = ys.take i ∧ Below w.heap.size w wr) (fun x _ => xs.length - (intOf x).toNat)
    case atStart => exact ⟨0, by omega, rfl, rfl, Below.refl _ _⟩
    case round =>
      obtain ⟨i, hi, rfl, htake, hBB⟩ := hrel
      have Htake := Lib.hid htake
      have HBB := Lib.hid hBB
      clear htake hBB
      by_cases hlt : i < xs.length
      · obtain ⟨b, o, rfl, -⟩ := HA.out (by omega)
        obtain ⟨b2, o2, rfl, -⟩ := HB.out (by rw [← Hlen.out]; omega)
        obtain ⟨x, hx⟩ : ∃ x, xs[i]? = some x := ⟨_, List.getElem?_eq_getElem hlt⟩
        obtain ⟨y, hy⟩ : ∃ y, ys[i]? = some y := ⟨_, List.getElem?_eq_getElem (by rw [← Hlen.out]; exact hlt)⟩
        obtain ⟨c0, c1, c2, c3⟩ := insn_cells (HA.out.later HBB.out) hx
        obtain ⟨e0, e1, e2, e3⟩ := insn_cells (HB.out.later HBB.out) hy
        have Hx := Lib.hid hx
        have Hy := Lib.hid hy
        have hi0 : (0 : Int) ≤ (i : Int) := by omega
        have hi1 : (i : Int) < (xs.length : Int) := by omega
        obtain ⟨x0, x1, x2, x3⟩ := x
        obtain ⟨y0, y1, y2, y3⟩ := y
        clear hx hy
        go_wp2_with fail
        go_quiet (fail)
        cases hd : inB x0 x1 x2 x3 y0 y1 y2 y3 with
        | true =>
          have hxy := Lib.hid (show (⟨x0, x1, x2, x3⟩ : Ins) = ⟨y0, y1, y2, y3⟩ from of_decide_eq_true ((inB_eq ⟨x0, x1, x2, x3⟩ ⟨y0, y1, y2, y3⟩).symm.trans hd))
          go_wp2_with fail
          go_roundw
          case rel => exact ⟨i + 1, by omega, by go_num, by rw [take_succ_getD Hx.out, take_succ_getD Hy.out, Htake.out, hxy.out], belowN HBB.out _⟩
          case measure => simp [intOf]; omega
        | false =>
          have hxy := Lib.hid (show ¬ (⟨x0, x1, x2, x3⟩ : Ins) = ⟨y0, y1, y2, y3⟩ from of_decide_eq_false ((inB_eq ⟨x0, x1, x2, x3⟩ ⟨y0, y1, y2, y3⟩).symm.trans hd))
          go_wp2_with fail
          go_ret
          refine ⟨?_, belowN HBB.out _⟩
          have hne : ¬ xs = ys := fun h => hxy.out (by have h1 := Hx.out; rw [h, Hy.out] at h1; exact (Option.some.inj h1).symm)
          simp [hne]
      · have hie : i = xs.length := by omega
        have heq : xs = ys := by
          have h := Htake.out
          rw [List.take_of_length_le (by omega), List.take_of_length_le (by rw [← Hlen.out]; omega)] at h
          exact h
        have Heq := Lib.hid heq
        clear heq hie
        go_wp2
        go_ret
        exact ⟨by simp [Heq.out], HBB.out⟩
  · have hne : ¬ xs = ys := fun h => hlen (by rw [h])
    have Hne := Lib.hid hne
    have hb : ((xs.length : Int) == (ys.length : Int)) = false := by simp; omega
    have hb2 : ¬ ((xs.length : Int) = (ys.length : Int)) := by omega
    clear hA hB hne
    go_enter Tryd.func18, Tryd.ntmps18
    go_wp2
    go_ret
    exact ⟨by simp [Hne.out], Below.refl _ _⟩
/-- The cells of one token's room. -/
theorem room_cells {w : World} {g n i : Nat} (h : Room 4 25 w g n) (hi : i < n) : ∃ v0 v1 v2 v3, w.cell? ⟨g, i * 4, none⟩ = some v0 ∧ w.cell? ⟨g, i * 4 + 1, none⟩ = some v1 ∧ w.cell? ⟨g, i * 4 + 2, none⟩ = some v2 ∧ w.cell? ⟨g, i * 4 + 3, none⟩ = some v3 ∧
    w.frozen? ⟨g, i * 4, none⟩ = false ∧ w.frozen? ⟨g, i * 4 + 1, none⟩ = false ∧ w.frozen? ⟨g, i * 4 + 2, none⟩ = false ∧ w.frozen? ⟨g, i * 4 + 3, none⟩ = false := by
  have ht := h.there hi
  obtain ⟨a0, b0⟩ := ht 0 (by decide)
  obtain ⟨a1, b1⟩ := ht 1 (by decide)
  obtain ⟨a2, b2⟩ := ht 2 (by decide)
  obtain ⟨a3, b3⟩ := ht 3 (by decide)
  obtain ⟨v0, a0⟩ := Option.isSome_iff_exists.1 a0
  obtain ⟨v1, a1⟩ := Option.isSome_iff_exists.1 a1
  obtain ⟨v2, a2⟩ := Option.isSome_iff_exists.1 a2
  obtain ⟨v3, a3⟩ := Option.isSome_iff_exists.1 a3
  exact ⟨v0, v1, v2, v3, a0, a1, a2, a3, b0, b1, b2, b3⟩
theorem room_set4 {w : World} {g n b o1 o2 o3 o4 : Nat} {a1 a2 a3 a4 : Value} (h : Room 4 25 w g n) : Room 4 25 ((((w.setCell ⟨b, o1, none⟩ a1).setCell ⟨b, o2, none⟩ a2).setCell ⟨b, o3, none⟩ a3).setCell ⟨b, o4, none⟩ a4) g n :=
  room_setCell (room_setCell (room_setCell (room_setCell h _ _ _) _ _ _) _ _ _) _ _ _
theorem grown_set4 (w : World) {b o1 o2 o3 o4 : Nat} {a1 a2 a3 a4 : Value} : w.grownBy ((((w.setCell ⟨b, o1, none⟩ a1).setCell ⟨b, o2, none⟩ a2).setCell ⟨b, o3, none⟩ a3).setCell ⟨b, o4, none⟩ a4) (some b) :=
  World.grownBy.trans (World.grownBy.trans (World.grownBy.trans (grown_setCell w b o1 a1) (grown_setCell _ b o2 a2)) (grown_setCell _ b o3 a3)) (grown_setCell _ b o4 a4)
set_option maxRecDepth 100000 in
set_option maxHeartbeats 1000000 in
theorem spoil_any (base : Nat) (A : Option Addr) (n c : Nat) (xs : List Value) (w : World) (hown : w.ownsRow base 25 4 (.slice A n c) n xs) (hn : n ≤ 17592186044410) :
    Calls Tryd.prog 19 #[.slice A n c] w fun e w' => e = .returned (.tuple #[]) ∧ w.grownBy w' (Value.slice A n c).ownBlock := by
  obtain ⟨i0, hi0, hz0, hz1, hz2⟩ := info_parts infoInsn
  have Hz0 := Lib.hid hz0
  have Hz1 := Lib.hid hz1
  have Hz2 := Lib.hid hz2
  clear hz0 hz1 hz2
  have hx : ((w.alloc (.cells (flatG encN [markI]).toArray 25)).heap[w.heap.size]? = some (.cells (flatG encN [markI]).toArray 25 (0, 0))) := heap_alloc_new w _
  have Hx := Lib.hid (rs_news hx)
  clear hx
  have hown1 : (w.alloc (.cells (flatG encN [markI]).toArray 25)).ownsRow base 25 4 (.slice A n c) n xs := own_later hown fun b hb => Below.heap_alloc _ _ _ (own_lt hown hb).2
  obtain ⟨row, hrow⟩ : ∃ r, (Value.slice A n c).ownBlock = r := ⟨_, rfl⟩
  rw [hrow]
  have hAn : A = none ∧ n = 0 ∧ c = 0 ∨ ∃ g, A = some ⟨g, 0, none⟩ := by
    rcases hown.2 with ⟨e, h0⟩ | ⟨g, cap, cur, e, _⟩
    · cases e; exact .inl ⟨rfl, h0, rfl⟩
    · cases e; exact .inr ⟨g, rfl⟩
  have HO := Lib.hid hown
  have HO1 := Lib.hid hown1
  have HR := Lib.hid hrow
  have HAn := Lib.hid hAn
  clear hown hown1 hrow hAn
  go_enter Tryd.func19, Tryd.ntmps19
  go_upto_region 0 with fail
  go_cut [2] (fun s2 W => ∃ g2 cap, s2 = .slice (some ⟨g2, 0, none⟩) (n + 1) cap ∧ Room 4 25 W g2 (n + 1) ∧ (∀ g, A = some ⟨g, 0, none⟩ → Room 4 25 W g n) ∧ w.grownBy W row ∧ (w.heap.size ≤ g2 ∨ row = some g2))
  case first =>
    by_cases hr : n + 1 ≤ c
    · obtain ⟨g, rfl⟩ : ∃ g, A = some ⟨g, 0, none⟩ := by
        rcases HAn.out with ⟨_, h1, h2⟩ | h
        · omega
        · exact h
      go_wp2_with (at_builtin; refine wpList_append_own_spare _ rfl _ _ 29 rfl base 25 i0 4 Tryd.underlying29 hi0 Hz1.out g n c xs rfl HO1.out ⟨w.heap.size, 0, none⟩ 1 1 (flatG encN [markI]) rfl rfl Hx.out (flatG_one encN_ok _) hr ?_; intro w2 hown2 hgrow)
      go_meet
      have hrm := Room.of_own hown2
      exact ⟨g, c, rfl, hrm, fun g' e => by cases e; exact hrm.mono (by omega), by rw [← HR.out]; exact World.grownBy.trans (World.grownBy_alloc w _ _) hgrow, .inr (by rw [← HR.out]; rfl)⟩
    · go_wp2_with (at_builtin; refine wpList_append_grows _ rfl _ _ 29 rfl 25 i0 (.agg #[.int .u16 0, .int .u8 0, .int .u8 0, .int .u32 0]) 4 8 Tryd.underlying29 hi0 Hz0.out Hz1.out Hz2.out rfl (by decide) A n c xs rfl (fun e => by rcases HAn.out with h | ⟨g, h⟩; exact h.2; rw [e] at h; cases h) HO1.out.1 (own_cells HO1.out) ⟨w.heap.size, 0, none⟩ 1 1 (flatG encN [markI]) rfl rfl Hx.out (flatG_one encN_ok _) (by omega) (by simp only [maxLen]; omega) (by omega) ?_; intro v2 w2 hown2 hgrow)
      obtain ⟨g2, cap2, rfl, hge, hlt2⟩ := hown2.form (by omega)
      go_meet
      refine ⟨g2, cap2, rfl, Room.of_own hown2, fun g' e => ?_, (World.grownBy.trans (World.grownBy_alloc w _ _) hgrow).but row, .inl (by simp at hge; omega)⟩
      subst e
      obtain ⟨cur, q1, q2⟩ := Room.of_own HO1.out
      exact ⟨cur, (hgrow.block g' (Array.getElem?_eq_some_iff.1 q1).1 (by simp)).trans q1, q2⟩
  case rest =>
    obtain ⟨g2, cap, rfl, hr2, hrA, hg, hg2⟩ := hcut
    have Hr2 := Lib.hid hr2
    have HrA := Lib.hid hrA
    have Hg := Lib.hid hg
    have Hg2 := Lib.hid hg2
    clear hr2 hrA hg hg2
    go_wp2_with fail
    go_loopw [3] (fun x wr => ∃ i : Nat, i ≤ n + 1 ∧ x = .int .i64 i ∧ Room 4 25 wr g2 (n + 1) ∧ (∀ g, A = some ⟨g, 0, none⟩ → Room 4 25 wr g n) ∧ w.grownBy wr row) (fun x _ => n + 1 - (intOf x).toNat)
    case atStart => exact ⟨0, by omega, rfl, Hr2.out, HrA.out, Hg.out⟩
    case round =>
      obtain ⟨i, hi, rfl, k1, k2, k3⟩ := hrel
      by_cases hlt : i < n + 1
      · obtain ⟨v0, v1, v2, v3, a0, a1, a2, a3, b0, b1, b2, b3⟩ := room_cells k1 hlt
        have hsz := k1.lt
        have K1 := Lib.hid k1
        have K2 := Lib.hid k2
        have K3 := Lib.hid k3
        have hi0 : (0 : Int) ≤ (i : Int) := by omega
        have hi1 : (i : Int) < (n : Int) + 1 := by omega
        clear k1 k2 k3
        go_wp2_with fail
        go_round
        case rel => exact ⟨i + 1, by omega, by go_num, room_set4 K1.out, fun g e => room_set4 (K2.out g e), K3.out.andThen (grown_set4 _) (fun j e => by cases e; exact Hg2.out)⟩
        case measure => simp [intOf]; omega
      · have K2 := Lib.hid k2
        have K3 := Lib.hid k3
        have hi1 : ¬ ((i : Int) < (n : Int) + 1) := by omega
        have hie : i = n + 1 := by omega
        subst hie
        clear k1 k2 k3
        go_wp2_with fail
        go_loopw [4] (fun x wr => ∃ i : Nat, i ≤ n ∧ x = .int .i64 i ∧ (∀ g, A = some ⟨g, 0, none⟩ → Room 4 25 wr g n) ∧ w.grownBy wr row) (fun x _ => n - (intOf x).toNat)
        case atStart => exact ⟨0, by omega, rfl, K2.out, K3.out⟩
        case round =>
          obtain ⟨i, hi, rfl, k2, k3⟩ := hrel
          by_cases hlt : i < n
          · obtain ⟨g, rfl⟩ : ∃ g, A = some ⟨g, 0, none⟩ := by
              rcases HAn.out with ⟨_, h1, h2⟩ | h
              · omega
              · exact h
            obtain ⟨v0, v1, v2, v3, a0, a1, a2, a3, b0, b1, b2, b3⟩ := room_cells (k2 g rfl) hlt
            have hsz := (k2 g rfl).lt
            have K2 := Lib.hid k2
            have K3 := Lib.hid k3
            have hi0 : (0 : Int) ≤ (i : Int) := by omega
            have hi1 : (i : Int) < (n : Int) := by omega
            clear k2 k3
            go_wp2_with fail
            go_round
            case rel => exact ⟨i + 1, by omega, by go_num, fun g' e => room_set4 (K2.out g' e), K3.out.andThen (grown_set4 _) (fun j e => by cases e; exact .inr (by rw [← HR.out]; rfl))⟩
            case measure => simp [intOf]; omega
          · have K3 := Lib.hid k3
            clear k2 k3
            have hi1 : ¬ ((i : Int) < (n : Int)) := by omega
            go_wp2
            go_end0
            exact ⟨rfl, K3.out⟩
theorem run_append_empty {P : Program} (w : World) (t ty e : TypeId) (i : TypeInfo) (ht : P.underlying t = some (.slice e)) (hi : P.info? e = some i) (b o n cap c : Nat) (A : Option Addr) (hn : n ≤ cap) (hA : A = none → c = 0) :
    (Builtin.append_ #[t, t] ty #[.slice (some ⟨b, o, none⟩) n cap, .slice A 0 c]).run P w = .ok (.slice (some ⟨b, o, none⟩) n cap) w := by
  cases A with
  | none => simp [Builtin.append_, run_underlying ht, sizeOf, typeInfo, hi, Builtin.lenOf, Builtin.firstCells, loadCells, loadCellsFrom, storeCells, hn]
  | some a => simp [Builtin.append_, run_underlying ht, sizeOf, typeInfo, hi, Builtin.lenOf, Builtin.firstCells, loadCells, loadCellsFrom, storeCells, hn]
theorem wpList_append_empty {P : Program} {ops : Array Oper} {rest : List Oper} {o : Oper} {a : Act} {Q : Exit → Act → World → Prop} (w : World) (hgd : o.guard = none) (s x : Operand) (t : TypeId)
    (ho : o.op = .call { callee := .builtin .append, args := #[s, x], argTypes := #[t, t] }) (e : TypeId) (i : TypeInfo) (ht : P.underlying t = some (.slice e)) (hi : P.info? e = some i) (b p n cap c : Nat) (A : Option Addr)
    (hs : a.eval s = .slice (some ⟨b, p, none⟩) n cap) (hx : a.eval x = .slice A 0 c) (hn : n ≤ cap) (hA : A = none → c = 0)
    (h : wpList P ops Q rest (a.put o.dst (.slice (some ⟨b, p, none⟩) n cap)) w) : wpList P ops Q (o :: rest) a w :=
  wpList_plain hgd fun _ hK => by
    have hr := run_append_empty (P := P) w t o.type e i ht hi b p n cap c A hn hA
    unfold Oper.wp execOp
    simp only [ho, resolve, invoke, builtin, Sem.run_bind, Sem.run_pure, Result.andThen_ok, List.map_toArray, List.map_cons, List.map_nil, hs, hx, hr]
    exact hK _ _ h
set_option maxRecDepth 100000 in
set_option maxHeartbeats 1000000 in
theorem copy_any (A : Option Addr) (c : Nat) (ns : List Ins) (w : World) (hA : Rs encN w A ns) (hl : ns.length ≤ 17592186044416) (hnil : A = none → c = 0) :
    Calls Tryd.prog 20 #[.slice A ns.length c] w fun e w' => ∃ g c2, e = .returned (.slice (some ⟨g, 0, none⟩) ns.length c2) ∧ OwnG 4 encN 25 w' w.heap.size (.slice (some ⟨g, 0, none⟩) ns.length c2) ns ∧ Below w.heap.size w w' := by
  obtain ⟨i0, hi0, hz0, hz1, hz2⟩ := info_parts infoInsn
  have Hz0 := Lib.hid hz0
  have Hz1 := Lib.hid hz1
  have Hz2 := Lib.hid hz2
  clear hz0 hz1 hz2
  have hB1 : Below w.heap.size w (w.alloc (.cells #[] 25)) := (Below.refl _ w).alloc (Nat.le_refl _) _
  have hown0 : (w.alloc (.cells #[] 25)).ownsRow w.heap.size 25 4 (.slice (some ⟨w.heap.size, 0, none⟩) 0 0) 0 [] := ⟨rfl, .inr ⟨w.heap.size, 0, #[], rfl, Nat.le_refl _, heap_alloc_new w _, Nat.le_refl _, Nat.zero_le _, rfl, rfl⟩⟩
  by_cases hp : 0 < ns.length
  · obtain ⟨b, o, rfl, hc0⟩ := (hA.later hB1) hp
    have hc : ∀ j u, (flatG encN ns)[j]? = some u → (w.alloc (.cells #[] 25)).cell? ((⟨b, o, none⟩ : Addr).add j) = some u := fun j u hu => by rw [add_plain]; exact hc0 j u hu
    clear hc0
    have HC := Lib.hid hc
    have HO := Lib.hid hown0
    have HB := Lib.hid hB1
    clear hc hown0 hB1 hA
    go_enter Tryd.func20, Tryd.ntmps20
    go_wp2_with (at_builtin; refine wpList_append_lies _ rfl _ _ 29 rfl w.heap.size 25 i0 (.agg #[.int .u16 0, .int .u8 0, .int .u8 0, .int .u32 0]) 4 8 Tryd.underlying29 hi0 Hz0.out Hz1.out Hz2.out rfl (by decide) (.slice (some ⟨w.heap.size, 0, none⟩) 0 0) 0 [] rfl HO.out ⟨b, o, none⟩ ns.length c (flatG encN ns) rfl (flatG_length encN_ok ns) HC.out (flatG_one encN_ok ns) hp (by simp only [maxLen]; omega) (by omega) (by simp) (w.heap.size + 1) (by simp) ?_; intro g cap w2 hown hgrow hat hlt)
    go_ret
    rw [Nat.zero_add, List.nil_append] at hown
    exact ⟨g, cap, rfl, hown, HB.out.grown hgrow (by simp) (fun k e => by cases e; exact Nat.le_refl _)⟩
  · have he : ns = [] := by simpa using hp
    subst he
    have HO := Lib.hid hown0
    have HB := Lib.hid hB1
    clear hown0 hB1 hA
    go_enter Tryd.func20, Tryd.ntmps20
    go_wp2_with (at_builtin; refine wpList_append_empty _ rfl _ _ 29 rfl 25 i0 Tryd.underlying29 hi0 w.heap.size 0 0 0 c A rfl rfl (Nat.le_refl _) hnil ?_)
    go_ret
    exact ⟨_, _, rfl, HO.out, HB.out⟩

end Go.Proofs.YtckbcmoanadckaaDoor
