/- riddlelaw3.AsmLines: it answers true. -/
import Derived.Test.YtckbcmoanadckaaDoorAwake
import Derived.Test.YtckbcmoanadckaaDoorLineRc
namespace Go.Proofs.YtckbcmoanadckaaDoor
open Go.RowKit Go.Shelf Go.Deep
set_option linter.unusedVariables false
set_option linter.unusedSimpArgs false

theorem keep8 {W V V' : World} {a b : Nat} {x0 x1 x2 x3 y0 y1 y2 y3 : Value} {B : Nat} (h : V.cell? ⟨a, 0, none⟩ = some x0 ∧ V.cell? ⟨a, 1, none⟩ = some x1 ∧ V.cell? ⟨a, 2, none⟩ = some x2 ∧ V.cell? ⟨a, 3, none⟩ = some x3 ∧ V.cell? ⟨b, 0, none⟩ = some y0 ∧ V.cell? ⟨b, 1, none⟩ = some y1 ∧ V.cell? ⟨b, 2, none⟩ = some y2 ∧ V.cell? ⟨b, 3, none⟩ = some y3 ∧ Below B W V ∧ B ≤ V.heap.size) (hb : Below V.heap.size V V') :
    V'.cell? ⟨a, 0, none⟩ = some x0 ∧ V'.cell? ⟨a, 1, none⟩ = some x1 ∧ V'.cell? ⟨a, 2, none⟩ = some x2 ∧ V'.cell? ⟨a, 3, none⟩ = some x3 ∧ V'.cell? ⟨b, 0, none⟩ = some y0 ∧ V'.cell? ⟨b, 1, none⟩ = some y1 ∧ V'.cell? ⟨b, 2, none⟩ = some y2 ∧ V'.cell? ⟨b, 3, none⟩ = some y3 ∧ Below B W V' ∧ B ≤ V'.heap.size := by
  obtain ⟨h0, h1, h2, h3, g0, g1, g2, g3, hB, hS⟩ := h
  have la : a < V.heap.size := World.block_lt_of_cell? V _ h0
  have lb : b < V.heap.size := World.block_lt_of_cell? V _ g0
  exact ⟨(hb.cell (p := ⟨a, 0, none⟩) la).trans h0, (hb.cell (p := ⟨a, 1, none⟩) la).trans h1, (hb.cell (p := ⟨a, 2, none⟩) la).trans h2, (hb.cell (p := ⟨a, 3, none⟩) la).trans h3, (hb.cell (p := ⟨b, 0, none⟩) lb).trans g0, (hb.cell (p := ⟨b, 1, none⟩) lb).trans g1, (hb.cell (p := ⟨b, 2, none⟩) lb).trans g2, (hb.cell (p := ⟨b, 3, none⟩) lb).trans g3, hB.trans (hb.mono hS), Nat.le_trans hS hb.size⟩
theorem last8 {p0 p1 p2 p3 p4 p5 p6 p7 p8 p9 : Prop} (h : p0 ∧ p1 ∧ p2 ∧ p3 ∧ p4 ∧ p5 ∧ p6 ∧ p7 ∧ p8 ∧ p9) : p8 := h.2.2.2.2.2.2.2.2.1
set_option maxRecDepth 100000 in
set_option maxHeartbeats 3200000 in
theorem lines_law (i : Ins) (m : Int) (w : World) (hi : InsOk i) (hm : w.cell? ⟨0, 0, none⟩ = some (.int .i64 m)) (ht : Tab10 w) :
    Calls Tryd.prog 3 #[aggN i] w fun e w' => e = .returned (.bool true) ∧ Below w.heap.size w w' := by
  obtain ⟨c, jt, jf, k⟩ := i
  have hB0 : Below w.heap.size w (w.alloc (objN ⟨c, jt, jf, k⟩)) := (Below.refl _ w).alloc (Nat.le_refl _) _
  have HB0 := Lib.hid hB0
  have HT := Lib.hid ht
  have Hm := Lib.hid hm
  have HI := Lib.hid hi
  have aw : ∀ W, Below w.heap.size w W → Calls Tryd.prog 11 #[] W fun e w' => e = .returned (.bool true) ∧ Below W.heap.size W w' := fun W hW => awake_any m W (max_later Hm.out hW) (HT.out.later hW)
  have AW := Lib.hid aw
  have la : ∀ (x : Ins) W, InsOk x → Below w.heap.size w W → Calls Tryd.prog 9 #[.agg #[.int .u16 x.code, .int .u8 x.jt, .int .u8 x.jf, .int .u32 x.k]] W fun e w' => e = .returned (.string (bs (lineL x))) ∧ Below W.heap.size W w' := fun x W hx hW => line_any x W hx (HT.out.later hW)
  have LA := Lib.hid la
  have lr : ∀ (x : Ins) W, InsOk x → Calls Tryd.prog 10 #[.agg #[.int .u16 x.code, .int .u8 x.jt, .int .u8 x.jf, .int .u32 x.k]] W fun e w' => e = .returned (.string (bs (lineL x))) ∧ Below W.heap.size W w' := fun x W hx => rline_any x W hx
  have LR := Lib.hid lr
  clear hB0 ht hm hi aw la lr
  go_enter Tryd.func3, Tryd.ntmps3
  go_upto_region 1 with fail
  go_region_held3 (fun w' => w'.cell? ⟨w.heap.size, 0, none⟩ = some (.int .u16 c) ∧ w'.cell? ⟨w.heap.size, 1, none⟩ = some (.int .u8 jt) ∧ w'.cell? ⟨w.heap.size, 2, none⟩ = some (.int .u8 jf) ∧ w'.cell? ⟨w.heap.size, 3, none⟩ = some (.int .u32 k) ∧ Below w.heap.size w w')
    (first | exact ⟨by simp [go_sem], by simp [go_sem], by simp [go_sem], by simp [go_sem], HB0.out.drew⟩ | exact ⟨by simp [go_sem], by simp [go_sem], by simp [go_sem], by simp [go_sem], HB0.out⟩ | exact keepL (by assumption) (by assumption) | assumption)
    (first
      | (go_at_call 9; refine (LA.out ⟨c, jt, jf, k⟩ _ HI.out (by first | exact lastL (by assumption) | exact HB0.out.drew | exact HB0.out)).mono ?_; rintro e1 w1 ⟨rfl, hB1⟩)
      | (go_at_call 10; refine (LR.out ⟨c, jt, jf, k⟩ _ HI.out).mono ?_; rintro e2 w2 ⟨rfl, hB2⟩))
  rename_i hH
  have HH := Lib.hid hH
  clear hH hB1 hB2
  go_wp2_with fail
  go_loopg [3] 256 (fun g s3 wr => ∃ n : Nat, n + g = 256 ∧ s3 = .int .i64 n ∧ wr.cell? ⟨w.heap.size, 0, none⟩ = some (.int .u16 c) ∧ wr.cell? ⟨w.heap.size, 1, none⟩ = some (.int .u8 jt) ∧ wr.cell? ⟨w.heap.size, 2, none⟩ = some (.int .u8 jf) ∧ wr.cell? ⟨w.heap.size, 3, none⟩ = some (.int .u32 k) ∧ Below w.heap.size w wr)
  case atStart => exact ⟨0, rfl, rfl, HH.out⟩
  case round =>
    obtain ⟨n, hn, rfl, hq⟩ := hrel
    have HQ := Lib.hid hq
    obtain ⟨q0, q1, q2, q3, qB⟩ := hq
    have n0 : (0 : Int) ≤ (n : Int) := by omega
    have n9 : (n : Int) ≤ 256 := by omega
    have ql : w.heap.size < wr.heap.size := World.block_lt_of_cell? wr _ q0
    have QB := Lib.hid qB
    clear qB
    cases gk with
    | zero =>
      have n1 : ¬ (n : Int) < 256 := by omega
      have ca := AW.out wr QB.out
      have Ca := Lib.hid ca
      clear ca
      go_wp2_with fail
      refine Ca.out.mono ?_
      rintro e w2 ⟨rfl, hB2⟩
      have HF := Lib.hid (QB.out.trans (hB2.mono QB.out.size))
      clear hB2
      go_wp2_with fail
      go_ret
      exact ⟨rfl, HF.out⟩
    | succ g =>
      have n1 : (n : Int) < 256 := by omega
      have hn5 : n ≤ 65535 := by omega
      have hw : IntKind.u16.wrap (n : Int) = n := IntWalk.u16_in _ (by omega)
      have hI4 : InsOk ⟨n, jt, jf, k⟩ := ⟨hn5, HI.out.jt, HI.out.jf, HI.out.k⟩
      have hI5 : InsOk ⟨n, 0, 0, k⟩ := ⟨hn5, Nat.zero_le _, Nat.zero_le _, HI.out.k⟩
      have HI4 := Lib.hid hI4
      have HI5 := Lib.hid hI5
      have Hn := Lib.hid hn
      have Hql := Lib.hid ql
      clear hI4 hI5 hn5 hn
      have hin : ((wr.alloc (.cells #[.int .u16 n, .int .u8 jt, .int .u8 jf, .int .u32 k] 25)).alloc (.cells #[.int .u16 n, .int .u8 0, .int .u8 0, .int .u32 k] 25)).cell? ⟨wr.heap.size, 0, none⟩ = some (.int .u16 n) ∧ ((wr.alloc (.cells #[.int .u16 n, .int .u8 jt, .int .u8 jf, .int .u32 k] 25)).alloc (.cells #[.int .u16 n, .int .u8 0, .int .u8 0, .int .u32 k] 25)).cell? ⟨wr.heap.size, 1, none⟩ = some (.int .u8 jt) ∧ ((wr.alloc (.cells #[.int .u16 n, .int .u8 jt, .int .u8 jf, .int .u32 k] 25)).alloc (.cells #[.int .u16 n, .int .u8 0, .int .u8 0, .int .u32 k] 25)).cell? ⟨wr.heap.size, 2, none⟩ = some (.int .u8 jf) ∧ ((wr.alloc (.cells #[.int .u16 n, .int .u8 jt, .int .u8 jf, .int .u32 k] 25)).alloc (.cells #[.int .u16 n, .int .u8 0, .int .u8 0, .int .u32 k] 25)).cell? ⟨wr.heap.size, 3, none⟩ = some (.int .u32 k) ∧ ((wr.alloc (.cells #[.int .u16 n, .int .u8 jt, .int .u8 jf, .int .u32 k] 25)).alloc (.cells #[.int .u16 n, .int .u8 0, .int .u8 0, .int .u32 k] 25)).cell? ⟨wr.heap.size + 1, 0, none⟩ = some (.int .u16 n) ∧ ((wr.alloc (.cells #[.int .u16 n, .int .u8 jt, .int .u8 jf, .int .u32 k] 25)).alloc (.cells #[.int .u16 n, .int .u8 0, .int .u8 0, .int .u32 k] 25)).cell? ⟨wr.heap.size + 1, 1, none⟩ = some (.int .u8 0) ∧ ((wr.alloc (.cells #[.int .u16 n, .int .u8 jt, .int .u8 jf, .int .u32 k] 25)).alloc (.cells #[.int .u16 n, .int .u8 0, .int .u8 0, .int .u32 k] 25)).cell? ⟨wr.heap.size + 1, 2, none⟩ = some (.int .u8 0) ∧ ((wr.alloc (.cells #[.int .u16 n, .int .u8 jt, .int .u8 jf, .int .u32 k] 25)).alloc (.cells #[.int .u16 n, .int .u8 0, .int .u8 0, .int .u32 k] 25)).cell? ⟨wr.heap.size + 1, 3, none⟩ = some (.int .u32 k) ∧ Below wr.heap.size wr ((wr.alloc (.cells #[.int .u16 n, .int .u8 jt, .int .u8 jf, .int .u32 k] 25)).alloc (.cells #[.int .u16 n, .int .u8 0, .int .u8 0, .int .u32 k] 25)) ∧ wr.heap.size ≤ ((wr.alloc (.cells #[.int .u16 n, .int .u8 jt, .int .u8 jf, .int .u32 k] 25)).alloc (.cells #[.int .u16 n, .int .u8 0, .int .u8 0, .int .u32 k] 25)).heap.size := ⟨by simp [go_sem], by simp [go_sem], by simp [go_sem], by simp [go_sem], by simp [go_sem], by simp [go_sem], by simp [go_sem], by simp [go_sem], (((Below.refl _ wr).alloc (Nat.le_refl _) _).alloc (by simp) _), by simp; omega⟩
      have hind : ((wr.alloc (.cells #[.int .u16 n, .int .u8 jt, .int .u8 jf, .int .u32 k] 25)).alloc (.cells #[.int .u16 n, .int .u8 0, .int .u8 0, .int .u32 k] 25)).drew.cell? ⟨wr.heap.size, 0, none⟩ = some (.int .u16 n) ∧ ((wr.alloc (.cells #[.int .u16 n, .int .u8 jt, .int .u8 jf, .int .u32 k] 25)).alloc (.cells #[.int .u16 n, .int .u8 0, .int .u8 0, .int .u32 k] 25)).drew.cell? ⟨wr.heap.size, 1, none⟩ = some (.int .u8 jt) ∧ ((wr.alloc (.cells #[.int .u16 n, .int .u8 jt, .int .u8 jf, .int .u32 k] 25)).alloc (.cells #[.int .u16 n, .int .u8 0, .int .u8 0, .int .u32 k] 25)).drew.cell? ⟨wr.heap.size, 2, none⟩ = some (.int .u8 jf) ∧ ((wr.alloc (.cells #[.int .u16 n, .int .u8 jt, .int .u8 jf, .int .u32 k] 25)).alloc (.cells #[.int .u16 n, .int .u8 0, .int .u8 0, .int .u32 k] 25)).drew.cell? ⟨wr.heap.size, 3, none⟩ = some (.int .u32 k) ∧ ((wr.alloc (.cells #[.int .u16 n, .int .u8 jt, .int .u8 jf, .int .u32 k] 25)).alloc (.cells #[.int .u16 n, .int .u8 0, .int .u8 0, .int .u32 k] 25)).drew.cell? ⟨wr.heap.size + 1, 0, none⟩ = some (.int .u16 n) ∧ ((wr.alloc (.cells #[.int .u16 n, .int .u8 jt, .int .u8 jf, .int .u32 k] 25)).alloc (.cells #[.int .u16 n, .int .u8 0, .int .u8 0, .int .u32 k] 25)).drew.cell? ⟨wr.heap.size + 1, 1, none⟩ = some (.int .u8 0) ∧ ((wr.alloc (.cells #[.int .u16 n, .int .u8 jt, .int .u8 jf, .int .u32 k] 25)).alloc (.cells #[.int .u16 n, .int .u8 0, .int .u8 0, .int .u32 k] 25)).drew.cell? ⟨wr.heap.size + 1, 2, none⟩ = some (.int .u8 0) ∧ ((wr.alloc (.cells #[.int .u16 n, .int .u8 jt, .int .u8 jf, .int .u32 k] 25)).alloc (.cells #[.int .u16 n, .int .u8 0, .int .u8 0, .int .u32 k] 25)).drew.cell? ⟨wr.heap.size + 1, 3, none⟩ = some (.int .u32 k) ∧ Below wr.heap.size wr ((wr.alloc (.cells #[.int .u16 n, .int .u8 jt, .int .u8 jf, .int .u32 k] 25)).alloc (.cells #[.int .u16 n, .int .u8 0, .int .u8 0, .int .u32 k] 25)).drew ∧ wr.heap.size ≤ ((wr.alloc (.cells #[.int .u16 n, .int .u8 jt, .int .u8 jf, .int .u32 k] 25)).alloc (.cells #[.int .u16 n, .int .u8 0, .int .u8 0, .int .u32 k] 25)).drew.heap.size := keep8 hin (Below.refl _ _).drew
      have HIN := Lib.hid hin
      have HIND := Lib.hid hind
      have LA4 : Hid (∀ W, Below wr.heap.size wr W → Calls Tryd.prog 9 #[.agg #[.int .u16 n, .int .u8 jt, .int .u8 jf, .int .u32 k]] W fun e w' => e = .returned (.string (bs (lineL ⟨n, jt, jf, k⟩))) ∧ Below W.heap.size W w') := Lib.hid fun W hW => LA.out ⟨n, jt, jf, k⟩ W HI4.out (QB.out.trans (hW.mono QB.out.size))
      have LA5 : Hid (∀ W, Below wr.heap.size wr W → Calls Tryd.prog 9 #[.agg #[.int .u16 n, .int .u8 0, .int .u8 0, .int .u32 k]] W fun e w' => e = .returned (.string (bs (lineL ⟨n, 0, 0, k⟩))) ∧ Below W.heap.size W w') := Lib.hid fun W hW => LA.out ⟨n, 0, 0, k⟩ W HI5.out (QB.out.trans (hW.mono QB.out.size))
      have LR4 : Hid (∀ W, Calls Tryd.prog 10 #[.agg #[.int .u16 n, .int .u8 jt, .int .u8 jf, .int .u32 k]] W fun e w' => e = .returned (.string (bs (lineL ⟨n, jt, jf, k⟩))) ∧ Below W.heap.size W w') := Lib.hid fun W => LR.out ⟨n, jt, jf, k⟩ W HI4.out
      have LR5 : Hid (∀ W, Calls Tryd.prog 10 #[.agg #[.int .u16 n, .int .u8 0, .int .u8 0, .int .u32 k]] W fun e w' => e = .returned (.string (bs (lineL ⟨n, 0, 0, k⟩))) ∧ Below W.heap.size W w') := Lib.hid fun W => LR.out ⟨n, 0, 0, k⟩ W HI5.out
      obtain ⟨L4, hL4⟩ : ∃ L, bs (lineL ⟨n, jt, jf, k⟩) = L := ⟨_, rfl⟩
      obtain ⟨L5, hL5⟩ : ∃ L, bs (lineL ⟨n, 0, 0, k⟩) = L := ⟨_, rfl⟩
      simp only [hL4] at LA4 LR4
      simp only [hL5] at LA5 LR5
      clear hin hind hL4 hL5 HI4 HI5 LA LR AW
      have g1 : (L4.toList == L4.toList) = true := by simp
      have g2 : (L5.toList == L5.toList) = true := by simp
      have g3 : (L4.toList != L4.toList) = false := by simp
      have g4 : (L5.toList != L5.toList) = false := by simp
      go_upto_region 9 with fail
      go_region_held3 (fun w' => w'.cell? ⟨wr.heap.size, 0, none⟩ = some (.int .u16 n) ∧ w'.cell? ⟨wr.heap.size, 1, none⟩ = some (.int .u8 jt) ∧ w'.cell? ⟨wr.heap.size, 2, none⟩ = some (.int .u8 jf) ∧ w'.cell? ⟨wr.heap.size, 3, none⟩ = some (.int .u32 k) ∧ w'.cell? ⟨wr.heap.size + 1, 0, none⟩ = some (.int .u16 n) ∧ w'.cell? ⟨wr.heap.size + 1, 1, none⟩ = some (.int .u8 0) ∧ w'.cell? ⟨wr.heap.size + 1, 2, none⟩ = some (.int .u8 0) ∧ w'.cell? ⟨wr.heap.size + 1, 3, none⟩ = some (.int .u32 k) ∧ Below wr.heap.size wr w' ∧ wr.heap.size ≤ w'.heap.size)
        (with_reducible first | assumption | exact HIN.out | exact HIND.out)
        (first
          | (go_at_call 9; with_reducible refine (LA4.out _ (by with_reducible first | exact last8 (by assumption) | exact last8 HIN.out | exact last8 HIND.out)).mono ?_; rintro e1 w1 ⟨rfl, hB1⟩; have hS1 := keep8 (by with_reducible first | assumption | exact HIN.out | exact HIND.out) hB1)
          | (go_at_call 10; with_reducible refine (LR4.out _).mono ?_; rintro e2 w2 ⟨rfl, hB2⟩; have hS2 := keep8 (by with_reducible first | assumption | exact HIN.out | exact HIND.out) hB2)
          | (go_at_call 9; with_reducible refine (LA5.out _ (by with_reducible first | exact last8 (by assumption) | exact last8 HIN.out | exact last8 HIND.out)).mono ?_; rintro e3 w3 ⟨rfl, hB3⟩; have hS3 := keep8 (by with_reducible first | assumption | exact HIN.out | exact HIND.out) hB3)
          | (go_at_call 10; with_reducible refine (LR5.out _).mono ?_; rintro e4 w4 ⟨rfl, hB4⟩; have hS4 := keep8 (by with_reducible first | assumption | exact HIN.out | exact HIND.out) hB4))
      rename_i hH2
      have HF := Lib.hid (keepL HQ.out (last8 hH2))
      clear hH2 hB1 hB2 hB3 hB4 hS1 hS2 hS3
      try clear hS4
      go_wp2_with fail
      go_roundg g
      case measure => omega
      case rel => exact ⟨n + 1, by have := Hn.out; omega, by go_num, HF.out⟩
end Go.Proofs.YtckbcmoanadckaaDoor
