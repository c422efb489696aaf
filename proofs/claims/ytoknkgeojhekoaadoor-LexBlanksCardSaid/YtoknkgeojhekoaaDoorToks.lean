/- Lists of tokens: what Lex gives; SameTokens, SpoilTokens. -/
import Derived.Test.YtoknkgeojhekoaaDoorRowG
import Derived.Test.YtoknkgeojhekoaaDoorTok
import Derived.Deep.RegionHeld3
import Derived.WalkSpells
import Derived.Deep.QuietTactic
import Derived.BigQuiet
import Derived.Deep.DeepCutAuto
import Derived.Great.BuildSlice
import Derived.WalkLawsBesides
namespace Go.Proofs.YtoknkgeojhekoaaDoor
open Go.RowKit Go.Shelf
set_option linter.unusedVariables false
set_option linter.unusedSimpArgs false

/-- A token. -/
structure Tk where
  kind : Int
  at0 : Int
  text : ByteArray
  n : Int
deriving DecidableEq
def encT (t : Tk) : List Value := [.int .i64 t.kind, .int .i64 t.at0, .string t.text, .int .u32 t.n]
theorem encT_ok : EncOk 4 encT := ⟨fun _ => rfl, fun a v hv => by
  simp only [encT, List.mem_cons, List.not_mem_nil, or_false] at hv
  rcases hv with rfl | rfl | rfl | rfl <;> rfl, by decide⟩
abbrev markT : Tk := ⟨77, -7, ⟨#[]⟩, 0⟩
theorem tkInfos : (Tryd.prog.info? 32).map (fun i => (i.zero, i.size, i.bytes)) = some (some (.agg #[.int .i64 0, .int .i64 0, .string ⟨#[]⟩, .int .u32 0]), 4, 40) := by kernel_rfl
theorem run_equalIn_tk (w : World) (x y : Tk) : (Op.equalIn 10000 32 (.agg #[.int .i64 x.kind, .int .i64 x.at0, .string x.text, .int .u32 x.n]) (.agg #[.int .i64 y.kind, .int .i64 y.at0, .string y.text, .int .u32 y.n])).run Tryd.prog w = .ok (decide (x = y)) w := by
  rw [run_equalIn_struct w 9999 _ _ _ Tryd.underlying32 Tryd.stoodInHeld32]
  simp only [Program.fieldsOf, Tryd.underlying32, Op.eqFields, part, ne_eq, String.reduceEq, not_false_eq_true, if_true, Sem.run_bind, Sem.run_ite, Sem.run_pure, Result.andThen_ok]
  simp only [Tryd.isAgg3, Tryd.isAgg30, Tryd.isAgg9, Result.andThen_ok, if_true, if_false, Bool.false_eq_true, Sem.run_pure,
    List.getElem?_toArray, List.getElem?_cons_zero, List.getElem?_cons_succ, Array.getElem?_eq_getElem, run_equalIn_int w 9998 3 .i64 .i64 _ _ Tryd.underlying3, run_equalIn_int w 9998 30 .u32 .u32 _ _ Tryd.underlying30, run_equalIn_string w 9998 9 _ _ Tryd.underlying9]
  have he : ∀ p q : Int, (!p == q) = true ↔ ¬ p = q := fun p q => by simp
  have hl : (!x.text.toList == y.text.toList) = true ↔ ¬ x.text = y.text := by
    simp only [Bool.not_eq_true', beq_eq_false_iff_ne, ne_eq, ByteArray.toList_eq]
    constructor
    · intro h e
      exact h (by rw [e])
    · intro h e
      exact h (ByteArray.ext (Array.toList_inj.1 e))
  simp only [he, hl]
  obtain ⟨a1, a2, a3, a4⟩ := x
  obtain ⟨c1, c2, c3, c4⟩ := y
  simp only [Tk.mk.injEq]
  by_cases h1 : a1 = c1
  case neg => simp [h1]
  by_cases h2 : a2 = c2
  case neg => simp [h2]
  by_cases h3 : a3 = c3
  case neg => simp [h3]
  by_cases h4 : a4 = c4
  case neg => simp [h4]
  simp [h1, h2, h3, h4]
/-- Are two tokens one? A name that the walk doesn't open. -/
def tkB (x y : Tk) : Bool := decide (x = y)
theorem tkB_true {x y : Tk} (h : tkB x y = true) : x = y := of_decide_eq_true h
theorem tkB_false {x y : Tk} (h : tkB x y = false) : ¬ x = y := of_decide_eq_false h
theorem tkB_self (x : Tk) : tkB x x = true := decide_eq_true rfl
section
variable (w : World) (a b n a' b' n' : Int) (t t' : ByteArray)
@[go_sem high] theorem run_eql_tk : (binOp .eql 32 (.agg #[.int .i64 a, .int .i64 b, .string t, .int .u32 n]) (.agg #[.int .i64 a', .int .i64 b', .string t', .int .u32 n'])).run Tryd.prog w = .ok (.bool (tkB ⟨a, b, t, n⟩ ⟨a', b', t', n'⟩)) w := by
  rw [run_eql_struct, run_equalIn_tk w ⟨a, b, t, n⟩ ⟨a', b', t', n'⟩]
  rfl
@[go_sem high] theorem run_neq_tk : (binOp .neq 32 (.agg #[.int .i64 a, .int .i64 b, .string t, .int .u32 n]) (.agg #[.int .i64 a', .int .i64 b', .string t', .int .u32 n'])).run Tryd.prog w = .ok (.bool (!tkB ⟨a, b, t, n⟩ ⟨a', b', t', n'⟩)) w := by
  rw [run_neq_struct, run_equalIn_tk w ⟨a, b, t, n⟩ ⟨a', b', t', n'⟩]
  rfl
end
theorem tk_cells {w : World} {b o i : Nat} {xs : List Tk} {x : Tk} (h : Rs encT w (some ⟨b, o, none⟩) xs) (hi : xs[i]? = some x) :
    w.cell? ⟨b, o + i * 4, none⟩ = some (.int .i64 x.kind) ∧ w.cell? ⟨b, o + i * 4 + 1, none⟩ = some (.int .i64 x.at0) ∧ w.cell? ⟨b, o + i * 4 + 2, none⟩ = some (.string x.text) ∧ w.cell? ⟨b, o + i * 4 + 3, none⟩ = some (.int .u32 x.n) :=
  ⟨h.cell encT_ok hi (j := 0) rfl, h.cell encT_ok hi (j := 1) rfl, h.cell encT_ok hi (j := 2) rfl, h.cell encT_ok hi (j := 3) rfl⟩
theorem belowN {B : Nat} {a w : World} (h : Below B a w) (n : Nat) : Below B a (w.drewN n) := h.trans ⟨rfl, rfl, rfl, Nat.le_refl _, fun _ _ => rfl⟩
theorem tk_eta (x : Tk) : (⟨x.kind, x.at0, x.text, x.n⟩ : Tk) = x := rfl
set_option maxRecDepth 100000 in
set_option maxHeartbeats 1000000 in
theorem same_any (A B : Option Addr) (c d : Nat) (xs ys : List Tk) (w : World) (hA : Rs encT w A xs) (hB : Rs encT w B ys) (hl : xs.length ≤ 4611686018427387904) (hl2 : ys.length ≤ 4611686018427387904) :
    Calls Tryd.prog 12 #[.slice A xs.length c, .slice B ys.length d] w fun e w' => e = .returned (.bool (decide (xs = ys))) ∧ Below w.heap.size w w' := by
  by_cases hlen : xs.length = ys.length
  · have HA := Lib.hid hA
    have HB := Lib.hid hB
    have Hlen := Lib.hid hlen
    clear hA hB
    rw [← hlen]
    clear hlen
    go_enter Tryd.func12, Tryd.ntmps12
    go_wp2_with fail
    go_loopw [5] (fun x wr => ∃ i : Nat, i ≤ xs.length ∧ x = .int .i64 i ∧ xs.take i = ys.take i ∧ Below w.heap.size w wr) (fun x _ => xs.length - (intOf x).toNat)
    case atStart => exact ⟨0, by omega, rfl, rfl, Below.refl _ _⟩
    case round =>
      obtain ⟨i, hi, rfl, htake, hBB⟩ := hrel
      have Htake := Lib.hid htake
      have HBB := Lib.hid hBB
      clear htake hBB
      by_cases hlt : i < xs.length
      · obtain ⟨b, o, rfl, -⟩ := HA.out (by omega)
        obtain ⟨b2, o2, rfl, -⟩ := HB.out (by rw [← Hlen.out]; omega)
        obtain ⟨x, hx⟩ : ∃ x, xs[i]? = some x := ⟨_, List.getElem?_eq_getElem hlt⟩
        obtain ⟨y, hy⟩ : ∃ y, ys[i]? = some y := ⟨_, List.getElem?_eq_getElem (by rw [← Hlen.out]; exact hlt)⟩
        obtain ⟨c0, c1, c2, c3⟩ := tk_cells (HA.out.later HBB.out) hx
        obtain ⟨e0, e1, e2, e3⟩ := tk_cells (HB.out.later HBB.out) hy
        have Hx := Lib.hid hx
        have Hy := Lib.hid hy
        have hi0 : (0 : Int) ≤ (i : Int) := by omega
        have hi1 : (i : Int) < (xs.length : Int) := by omega
        obtain ⟨x0, x1, x2, x3⟩ := x
        obtain ⟨y0, y1, y2, y3⟩ := y
        clear hx hy
        go_wp2_with fail
        go_quiet (fail)
        cases hd : tkB ⟨x0, x1, x2, x3⟩ ⟨y0, y1, y2, y3⟩ with
        | true =>
          have hxy := Lib.hid (tkB_true hd)
          go_wp2_with fail
          go_roundw
          case rel => exact ⟨i + 1, by omega, by go_num, by rw [take_succ_getD Hx.out, take_succ_getD Hy.out, Htake.out, hxy.out], belowN HBB.out _⟩
          case measure => simp [intOf]; omega
        | false =>
          have hxy := Lib.hid (tkB_false hd)
          go_wp2_with fail
          go_ret
          refine ⟨?_, belowN HBB.out _⟩
          have hne : ¬ xs = ys := fun h => hxy.out (by have h1 := Hx.out; rw [h, Hy.out] at h1; exact (Option.some.inj h1).symm)
          simp [hne]
      · have hie : i = xs.length := by omega
        have heq : xs = ys := by
          have h := Htake.out
          rw [List.take_of_length_le (by omega), List.take_of_length_le (by rw [← Hlen.out]; omega)] at h
          exact h
        have Heq := Lib.hid heq
        clear heq hie
        go_wp2
        go_ret
        exact ⟨by simp [Heq.out], HBB.out⟩
  · have hne : ¬ xs = ys := fun h => hlen (by rw [h])
    have Hne := Lib.hid hne
    have hb : ((xs.length : Int) == (ys.length : Int)) = false := by simp; omega
    have hb2 : ¬ ((xs.length : Int) = (ys.length : Int)) := by omega
    clear hA hB hne
    go_enter Tryd.func12, Tryd.ntmps12
    go_wp2
    go_ret
    exact ⟨by simp [Hne.out], Below.refl _ _⟩
/-- The cells of one token's room. -/
theorem room_cells {w : World} {g n i : Nat} (h : Room 4 32 w g n) (hi : i < n) : ∃ v0 v1 v2 v3, w.cell? ⟨g, i * 4, none⟩ = some v0 ∧ w.cell? ⟨g, i * 4 + 1, none⟩ = some v1 ∧ w.cell? ⟨g, i * 4 + 2, none⟩ = some v2 ∧ w.cell? ⟨g, i * 4 + 3, none⟩ = some v3 ∧
    w.frozen? ⟨g, i * 4, none⟩ = false ∧ w.frozen? ⟨g, i * 4 + 1, none⟩ = false ∧ w.frozen? ⟨g, i * 4 + 2, none⟩ = false ∧ w.frozen? ⟨g, i * 4 + 3, none⟩ = false := by
  have ht := h.there hi
  obtain ⟨a0, b0⟩ := ht 0 (by decide)
  obtain ⟨a1, b1⟩ := ht 1 (by decide)
  obtain ⟨a2, b2⟩ := ht 2 (by decide)
  obtain ⟨a3, b3⟩ := ht 3 (by decide)
  obtain ⟨v0, a0⟩ := Option.isSome_iff_exists.1 a0
  obtain ⟨v1, a1⟩ := Option.isSome_iff_exists.1 a1
  obtain ⟨v2, a2⟩ := Option.isSome_iff_exists.1 a2
  obtain ⟨v3, a3⟩ := Option.isSome_iff_exists.1 a3
  exact ⟨v0, v1, v2, v3, a0, a1, a2, a3, b0, b1, b2, b3⟩
theorem room_set4 {w : World} {g n b o1 o2 o3 o4 : Nat} {a1 a2 a3 a4 : Value} (h : Room 4 32 w g n) : Room 4 32 ((((w.setCell ⟨b, o1, none⟩ a1).setCell ⟨b, o2, none⟩ a2).setCell ⟨b, o3, none⟩ a3).setCell ⟨b, o4, none⟩ a4) g n :=
  room_setCell (room_setCell (room_setCell (room_setCell h _ _ _) _ _ _) _ _ _) _ _ _
theorem grown_set4 (w : World) {b o1 o2 o3 o4 : Nat} {a1 a2 a3 a4 : Value} : w.grownBy ((((w.setCell ⟨b, o1, none⟩ a1).setCell ⟨b, o2, none⟩ a2).setCell ⟨b, o3, none⟩ a3).setCell ⟨b, o4, none⟩ a4) (some b) :=
  World.grownBy.trans (World.grownBy.trans (World.grownBy.trans (grown_setCell w b o1 a1) (grown_setCell _ b o2 a2)) (grown_setCell _ b o3 a3)) (grown_setCell _ b o4 a4)
set_option maxRecDepth 100000 in
set_option maxHeartbeats 1000000 in
theorem spoil_any (base : Nat) (A : Option Addr) (n c : Nat) (xs : List Value) (w : World) (hown : w.ownsRow base 32 4 (.slice A n c) n xs) (hn : n ≤ 1000000000) :
    Calls Tryd.prog 13 #[.slice A n c] w fun e w' => e = .returned (.tuple #[]) ∧ w.grownBy w' (Value.slice A n c).ownBlock := by
  obtain ⟨i0, hi0, hz0, hz1, hz2⟩ := info_parts tkInfos
  have Hz0 := Lib.hid hz0
  have Hz1 := Lib.hid hz1
  have Hz2 := Lib.hid hz2
  clear hz0 hz1 hz2
  have hx : ((w.alloc (.cells (flatG encT [markT]).toArray 32)).heap[w.heap.size]? = some (.cells (flatG encT [markT]).toArray 32 (0, 0))) := heap_alloc_new w _
  have Hx := Lib.hid (rs_news hx)
  clear hx
  have hown1 : (w.alloc (.cells (flatG encT [markT]).toArray 32)).ownsRow base 32 4 (.slice A n c) n xs := own_later hown fun b hb => Below.heap_alloc _ _ _ (own_lt hown hb).2
  obtain ⟨row, hrow⟩ : ∃ r, (Value.slice A n c).ownBlock = r := ⟨_, rfl⟩
  rw [hrow]
  have hAn : A = none ∧ n = 0 ∧ c = 0 ∨ ∃ g, A = some ⟨g, 0, none⟩ := by
    rcases hown.2 with ⟨e, h0⟩ | ⟨g, cap, cur, e, _⟩
    · cases e; exact .inl ⟨rfl, h0, rfl⟩
    · cases e; exact .inr ⟨g, rfl⟩
  have HO := Lib.hid hown
  have HO1 := Lib.hid hown1
  have HR := Lib.hid hrow
  have HAn := Lib.hid hAn
  clear hown hown1 hrow hAn
  go_enter Tryd.func13, Tryd.ntmps13
  go_upto_region 0 with fail
  go_cut [2] (fun s2 W => ∃ g2 cap, s2 = .slice (some ⟨g2, 0, none⟩) (n + 1) cap ∧ Room 4 32 W g2 (n + 1) ∧ (∀ g, A = some ⟨g, 0, none⟩ → Room 4 32 W g n) ∧ w.grownBy W row ∧ (w.heap.size ≤ g2 ∨ row = some g2))
  case first =>
    by_cases hr : n + 1 ≤ c
    · obtain ⟨g, rfl⟩ : ∃ g, A = some ⟨g, 0, none⟩ := by
        rcases HAn.out with ⟨_, h1, h2⟩ | h
        · omega
        · exact h
      go_wp2_with (at_builtin; refine wpList_append_own_spare _ rfl _ _ 22 rfl base 32 i0 4 Tryd.underlying22 hi0 Hz1.out g n c xs rfl HO1.out ⟨w.heap.size, 0, none⟩ 1 1 (flatG encT [markT]) rfl rfl Hx.out (flatG_one encT_ok _) hr ?_; intro w2 hown2 hgrow)
      go_meet
      have hrm := Room.of_own hown2
      exact ⟨g, c, rfl, hrm, fun g' e => by cases e; exact hrm.mono (by omega), by rw [← HR.out]; exact World.grownBy.trans (World.grownBy_alloc w _ _) hgrow, .inr (by rw [← HR.out]; rfl)⟩
    · go_wp2_with (at_builtin; refine wpList_append_grows _ rfl _ _ 22 rfl 32 i0 (.agg #[.int .i64 0, .int .i64 0, .string ⟨#[]⟩, .int .u32 0]) 4 40 Tryd.underlying22 hi0 Hz0.out Hz1.out Hz2.out rfl (by decide) A n c xs rfl (fun e => by rcases HAn.out with h | ⟨g, h⟩; exact h.2; rw [e] at h; cases h) HO1.out.1 (own_cells HO1.out) ⟨w.heap.size, 0, none⟩ 1 1 (flatG encT [markT]) rfl rfl Hx.out (flatG_one encT_ok _) (by omega) (by simp only [maxLen]; omega) (by omega) ?_; intro v2 w2 hown2 hgrow)
      obtain ⟨g2, cap2, rfl, hge, hlt2⟩ := hown2.form (by omega)
      go_meet
      refine ⟨g2, cap2, rfl, Room.of_own hown2, fun g' e => ?_, (World.grownBy.trans (World.grownBy_alloc w _ _) hgrow).but row, .inl (by simp at hge; omega)⟩
      subst e
      obtain ⟨cur, q1, q2⟩ := Room.of_own HO1.out
      exact ⟨cur, (hgrow.block g' (Array.getElem?_eq_some_iff.1 q1).1 (by simp)).trans q1, q2⟩
  case rest =>
    obtain ⟨g2, cap, rfl, hr2, hrA, hg, hg2⟩ := hcut
    have Hr2 := Lib.hid hr2
    have HrA := Lib.hid hrA
    have Hg := Lib.hid hg
    have Hg2 := Lib.hid hg2
    clear hr2 hrA hg hg2
    go_wp2_with fail
    go_loopw [3] (fun x wr => ∃ i : Nat, i ≤ n + 1 ∧ x = .int .i64 i ∧ Room 4 32 wr g2 (n + 1) ∧ (∀ g, A = some ⟨g, 0, none⟩ → Room 4 32 wr g n) ∧ w.grownBy wr row) (fun x _ => n + 1 - (intOf x).toNat)
    case atStart => exact ⟨0, by omega, rfl, Hr2.out, HrA.out, Hg.out⟩
    case round =>
      obtain ⟨i, hi, rfl, k1, k2, k3⟩ := hrel
      by_cases hlt : i < n + 1
      · obtain ⟨v0, v1, v2, v3, a0, a1, a2, a3, b0, b1, b2, b3⟩ := room_cells k1 hlt
        have hsz := k1.lt
        have K1 := Lib.hid k1
        have K2 := Lib.hid k2
        have K3 := Lib.hid k3
        have hi0 : (0 : Int) ≤ (i : Int) := by omega
        have hi1 : (i : Int) < (n : Int) + 1 := by omega
        clear k1 k2 k3
        go_wp2_with fail
        go_round
        case rel => exact ⟨i + 1, by omega, by go_num, room_set4 K1.out, fun g e => room_set4 (K2.out g e), K3.out.andThen (grown_set4 _) (fun j e => by cases e; exact Hg2.out)⟩
        case measure => simp [intOf]; omega
      · have K2 := Lib.hid k2
        have K3 := Lib.hid k3
        have hi1 : ¬ ((i : Int) < (n : Int) + 1) := by omega
        have hie : i = n + 1 := by omega
        subst hie
        clear k1 k2 k3
        go_wp2_with fail
        go_loopw [4] (fun x wr => ∃ i : Nat, i ≤ n ∧ x = .int .i64 i ∧ (∀ g, A = some ⟨g, 0, none⟩ → Room 4 32 wr g n) ∧ w.grownBy wr row) (fun x _ => n - (intOf x).toNat)
        case atStart => exact ⟨0, by omega, rfl, K2.out, K3.out⟩
        case round =>
          obtain ⟨i, hi, rfl, k2, k3⟩ := hrel
          by_cases hlt : i < n
          · obtain ⟨g, rfl⟩ : ∃ g, A = some ⟨g, 0, none⟩ := by
              rcases HAn.out with ⟨_, h1, h2⟩ | h
              · omega
              · exact h
            obtain ⟨v0, v1, v2, v3, a0, a1, a2, a3, b0, b1, b2, b3⟩ := room_cells (k2 g rfl) hlt
            have hsz := (k2 g rfl).lt
            have K2 := Lib.hid k2
            have K3 := Lib.hid k3
            have hi0 : (0 : Int) ≤ (i : Int) := by omega
            have hi1 : (i : Int) < (n : Int) := by omega
            clear k2 k3
            go_wp2_with fail
            go_round
            case rel => exact ⟨i + 1, by omega, by go_num, fun g' e => room_set4 (K2.out g' e), K3.out.andThen (grown_set4 _) (fun j e => by cases e; exact .inr (by rw [← HR.out]; rfl))⟩
            case measure => simp [intOf]; omega
          · have K3 := Lib.hid k3
            clear k2 k3
            have hi1 : ¬ ((i : Int) < (n : Int)) := by omega
            go_wp2
            go_end0
            exact ⟨rfl, K3.out⟩
end Go.Proofs.YtoknkgeojhekoaaDoor
