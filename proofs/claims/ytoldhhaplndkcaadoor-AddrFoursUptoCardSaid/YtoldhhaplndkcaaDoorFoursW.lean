/- riddlelaw6.AddrFours: it answers true. -/
import Derived.Test.YtoldhhaplndkcaaDoorAwake
import Derived.Deep.RegionHeld3
namespace Go.Proofs.YtoldhhaplndkcaaDoor
open Go.RowKit Go.Shelf Go.Deep
set_option linter.unusedVariables false
set_option linter.unusedSimpArgs false

theorem keep13 {B V V' : World} {a b c p0 p1 p2 p3 q0 q1 q2 q3 : Nat} (h : V.cell? ⟨a, 0, none⟩ = some (.int .u8 (p0 : Nat)) ∧ V.cell? ⟨a, 1, none⟩ = some (.int .u8 (p1 : Nat)) ∧ V.cell? ⟨a, 2, none⟩ = some (.int .u8 (p2 : Nat)) ∧ V.cell? ⟨a, 3, none⟩ = some (.int .u8 (p3 : Nat)) ∧ V.cell? ⟨b, 0, none⟩ = some (.int .u8 (q0 : Nat)) ∧ V.cell? ⟨b, 1, none⟩ = some (.int .u8 (q1 : Nat)) ∧ V.cell? ⟨b, 2, none⟩ = some (.int .u8 (q2 : Nat)) ∧ V.cell? ⟨b, 3, none⟩ = some (.int .u8 (q3 : Nat)) ∧ V.cell? ⟨c, 0, none⟩ = some (.int .u8 (q0 : Nat)) ∧ V.cell? ⟨c, 1, none⟩ = some (.int .u8 (q1 : Nat)) ∧ V.cell? ⟨c, 2, none⟩ = some (.int .u8 (q2 : Nat)) ∧ V.cell? ⟨c, 3, none⟩ = some (.int .u8 (q3 : Nat)) ∧ Below B.heap.size B V ∧ B.heap.size ≤ V.heap.size) (hb : Below V.heap.size V V') :
    V'.cell? ⟨a, 0, none⟩ = some (.int .u8 (p0 : Nat)) ∧ V'.cell? ⟨a, 1, none⟩ = some (.int .u8 (p1 : Nat)) ∧ V'.cell? ⟨a, 2, none⟩ = some (.int .u8 (p2 : Nat)) ∧ V'.cell? ⟨a, 3, none⟩ = some (.int .u8 (p3 : Nat)) ∧ V'.cell? ⟨b, 0, none⟩ = some (.int .u8 (q0 : Nat)) ∧ V'.cell? ⟨b, 1, none⟩ = some (.int .u8 (q1 : Nat)) ∧ V'.cell? ⟨b, 2, none⟩ = some (.int .u8 (q2 : Nat)) ∧ V'.cell? ⟨b, 3, none⟩ = some (.int .u8 (q3 : Nat)) ∧ V'.cell? ⟨c, 0, none⟩ = some (.int .u8 (q0 : Nat)) ∧ V'.cell? ⟨c, 1, none⟩ = some (.int .u8 (q1 : Nat)) ∧ V'.cell? ⟨c, 2, none⟩ = some (.int .u8 (q2 : Nat)) ∧ V'.cell? ⟨c, 3, none⟩ = some (.int .u8 (q3 : Nat)) ∧ Below B.heap.size B V' ∧ B.heap.size ≤ V'.heap.size := by
  obtain ⟨h0, h1, h2, h3, h4, h5, h6, h7, h8, h9, h10, h11, hB, hS⟩ := h
  have la := World.block_lt_of_cell? V _ h0
  have lb := World.block_lt_of_cell? V _ h4
  have lc := World.block_lt_of_cell? V _ h8
  exact ⟨(hb.cell (p := ⟨a, 0, none⟩) la).trans h0, (hb.cell (p := ⟨a, 1, none⟩) la).trans h1, (hb.cell (p := ⟨a, 2, none⟩) la).trans h2, (hb.cell (p := ⟨a, 3, none⟩) la).trans h3, (hb.cell (p := ⟨b, 0, none⟩) lb).trans h4, (hb.cell (p := ⟨b, 1, none⟩) lb).trans h5, (hb.cell (p := ⟨b, 2, none⟩) lb).trans h6, (hb.cell (p := ⟨b, 3, none⟩) lb).trans h7, (hb.cell (p := ⟨c, 0, none⟩) lc).trans h8, (hb.cell (p := ⟨c, 1, none⟩) lc).trans h9, (hb.cell (p := ⟨c, 2, none⟩) lc).trans h10, (hb.cell (p := ⟨c, 3, none⟩) lc).trans h11, hB.trans (hb.mono hS), Nat.le_trans hS hb.size⟩
theorem last13 {x0 x1 x2 x3 x4 x5 x6 x7 x8 x9 x10 x11 x12 x13 : Prop} (h : x0 ∧ x1 ∧ x2 ∧ x3 ∧ x4 ∧ x5 ∧ x6 ∧ x7 ∧ x8 ∧ x9 ∧ x10 ∧ x11 ∧ x12 ∧ x13) : x12 ∧ x13 := h.2.2.2.2.2.2.2.2.2.2.2.2
theorem fours_of {b : Nat} {W : World} {x0 x1 x2 x3 : Nat} (h : ArrAt 22 W b [x0, x1, x2, x3]) : W.cell? ⟨b, 0, none⟩ = some (.int .u8 (x0 : Nat)) ∧ W.cell? ⟨b, 1, none⟩ = some (.int .u8 (x1 : Nat)) ∧ W.cell? ⟨b, 2, none⟩ = some (.int .u8 (x2 : Nat)) ∧ W.cell? ⟨b, 3, none⟩ = some (.int .u8 (x3 : Nat)) :=
  ⟨h.cell rfl, h.cell rfl, h.cell rfl, h.cell rfl⟩
theorem p4_four (s : List UInt8) : ∃ q0 q1 q2 q3, (p4L s).getD zero4 = [q0, q1, q2, q3] := by
  cases h : p4L s with
  | none => exact ⟨0, 0, 0, 0, rfl⟩
  | some l => exact four_of (p4_some h).1
set_option maxRecDepth 100000 in
set_option maxHeartbeats 3200000 in
theorem fours_law (s : ByteArray) (l : List Nat) (m : Int) (w : World) (hs : s.size ≤ 1048576) (h4 : l.length = 4) (hl : ∀ x ∈ l, x ≤ 255) (hG : Given m w) :
    Calls Tryd.prog 3 #[.string s, agg4 l] w fun e w' => e = .returned (.bool true) ∧ Below w.heap.size w w' := by
  have pr := fun W (hW : Below w.heap.size w W) => print4_any l W h4 hl (hG.later hW).tab
  have rpr := fun W => rprint4_any l W h4 hl
  obtain ⟨X, hX⟩ : ∃ X, bs (print4L l) = X := ⟨_, rfl⟩
  rw [hX] at pr rpr
  obtain ⟨p0, p1, p2, p3, rfl⟩ := four_of h4
  obtain ⟨q0, q1, q2, q3, hq⟩ := p4_four s.data.toList
  obtain ⟨er, her⟩ : ∃ er, err60 (p4L s.data.toList) = er := ⟨_, rfl⟩
  have pa := fun W (hW : Below w.heap.size w W) => parse4_any s m W hs (hG.later hW).max (hG.later hW).err (hG.later hW).tab
  have rpa := fun W => rparse4_any s W hs
  rw [hq, her] at pa rpa
  have pr1 : ∀ W, Below w.heap.size w W → Calls Tryd.prog 11 #[.agg #[.int .u8 (p0 : Nat), .int .u8 (p1 : Nat), .int .u8 (p2 : Nat), .int .u8 (p3 : Nat)]] W fun e w' => e = .returned (.string X) ∧ Below W.heap.size W w' := pr
  have rpr1 : ∀ W, Calls Tryd.prog 12 #[.agg #[.int .u8 (p0 : Nat), .int .u8 (p1 : Nat), .int .u8 (p2 : Nat), .int .u8 (p3 : Nat)]] W fun e w' => e = .returned (.string X) ∧ Below W.heap.size W w' := rpr
  have pa1 : ∀ W, Below w.heap.size w W → Calls Tryd.prog 9 #[.string s] W fun e w' => e = .returned (.tuple #[.agg #[.int .u8 (q0 : Nat), .int .u8 (q1 : Nat), .int .u8 (q2 : Nat), .int .u8 (q3 : Nat)], .int .i64 (er : Nat)]) ∧ Below W.heap.size W w' := pa
  have rpa1 : ∀ W, Calls Tryd.prog 10 #[.string s] W fun e w' => e = .returned (.tuple #[.agg #[.int .u8 (q0 : Nat), .int .u8 (q1 : Nat), .int .u8 (q2 : Nat), .int .u8 (q3 : Nat)], .int .i64 (er : Nat)]) ∧ Below W.heap.size W w' := rpa
  have aw : ∀ W, Below w.heap.size w W → Calls Tryd.prog 13 #[] W fun e w' => e = .returned (.bool true) ∧ Below W.heap.size W w' := fun W hW => awake_any m W (hG.later hW)
  have PR := Lib.hid pr1
  have RPR := Lib.hid rpr1
  have PA := Lib.hid pa1
  have RPA := Lib.hid rpa1
  have AW := Lib.hid aw
  have hA0 : ArrAt 22 (w.alloc (.cells #[.int .u8 (p0 : Nat), .int .u8 (p1 : Nat), .int .u8 (p2 : Nat), .int .u8 (p3 : Nat)] 22)) w.heap.size [p0, p1, p2, p3] := ArrAt.new _ w [p0, p1, p2, p3]
  have hB0 : Below w.heap.size w (w.alloc (.cells #[.int .u8 (p0 : Nat), .int .u8 (p1 : Nat), .int .u8 (p2 : Nat), .int .u8 (p3 : Nat)] 22)) := (Below.refl _ w).alloc (Nat.le_refl _) _
  have HA0 := Lib.hid hA0
  have HB0 := Lib.hid hB0
  show Calls Tryd.prog 3 #[.string s, .agg #[.int .u8 (p0 : Nat), .int .u8 (p1 : Nat), .int .u8 (p2 : Nat), .int .u8 (p3 : Nat)]] w _
  clear pr rpr pa rpa pr1 rpr1 pa1 rpa1 aw hq her hX hG hl h4 hA0 hB0
  go_enter Tryd.func3, Tryd.ntmps3
  go_wp2_with fail
  (with_reducible refine (PA.out _ HB0.out).mono ?_)
  rintro e w1 ⟨rfl, hB1⟩
  have HA1 := Lib.hid ((HA0.out.later hB1).old (.cells #[.int .u8 (q0 : Nat), .int .u8 (q1 : Nat), .int .u8 (q2 : Nat), .int .u8 (q3 : Nat)] 22))
  have hb1 : Below w.heap.size w w1 := HB0.out.trans (hB1.mono HB0.out.size)
  have hb2 : Below w.heap.size w (w1.alloc (.cells #[.int .u8 (q0 : Nat), .int .u8 (q1 : Nat), .int .u8 (q2 : Nat), .int .u8 (q3 : Nat)] 22)) := hb1.alloc hb1.size _
  have HX1 := Lib.hid (show ArrAt 22 (w1.alloc (.cells #[.int .u8 (q0 : Nat), .int .u8 (q1 : Nat), .int .u8 (q2 : Nat), .int .u8 (q3 : Nat)] 22)) w1.heap.size [q0, q1, q2, q3] from ArrAt.new _ w1 [q0, q1, q2, q3])
  have HB2 := Lib.hid hb2
  clear hB1 hb1 hb2
  go_wp2_with fail
  (with_reducible refine (RPA.out _).mono ?_)
  rintro e w2 ⟨rfl, hB2⟩
  have hb3 := HB2.out.trans (hB2.mono HB2.out.size)
  have hA3 := (HA1.out.later hB2).old (.cells #[.int .u8 (q0 : Nat), .int .u8 (q1 : Nat), .int .u8 (q2 : Nat), .int .u8 (q3 : Nat)] 22)
  have hX3 := (HX1.out.later hB2).old (.cells #[.int .u8 (q0 : Nat), .int .u8 (q1 : Nat), .int .u8 (q2 : Nat), .int .u8 (q3 : Nat)] 22)
  have hY3 : ArrAt 22 (w2.alloc (.cells #[.int .u8 (q0 : Nat), .int .u8 (q1 : Nat), .int .u8 (q2 : Nat), .int .u8 (q3 : Nat)] 22)) w2.heap.size [q0, q1, q2, q3] := ArrAt.new _ w2 [q0, q1, q2, q3]
  have hb4 : Below w.heap.size w (w2.alloc (.cells #[.int .u8 (q0 : Nat), .int .u8 (q1 : Nat), .int .u8 (q2 : Nat), .int .u8 (q3 : Nat)] 22)) := hb3.alloc hb3.size _
  obtain ⟨a0, a1, a2, a3⟩ := fours_of hA3
  obtain ⟨b0, b1, b2, b3⟩ := fours_of hX3
  obtain ⟨c0, c1, c2, c3⟩ := fours_of hY3
  have e4 : ∀ W, (Op.equalIn 10000 22 (.agg #[.int .u8 (q0 : Nat), .int .u8 (q1 : Nat), .int .u8 (q2 : Nat), .int .u8 (q3 : Nat)]) (.agg #[.int .u8 (q0 : Nat), .int .u8 (q1 : Nat), .int .u8 (q2 : Nat), .int .u8 (q3 : Nat)])).run Tryd.prog W = .ok true W := fun W => by
    have := eqIn_a4 W [q0, q1, q2, q3] [q0, q1, q2, q3] rfl rfl
    rw [decide_eq_true rfl] at this
    exact this
  have g1 : (X.toList == X.toList) = true := beq_self_eq_true _
  have g2 : ((er : Int) == (er : Int)) = true := beq_self_eq_true _
  have HS := Lib.hid (show (w2.alloc (.cells #[.int .u8 (q0 : Nat), .int .u8 (q1 : Nat), .int .u8 (q2 : Nat), .int .u8 (q3 : Nat)] 22)).cell? ⟨w.heap.size, 0, none⟩ = some (.int .u8 (p0 : Nat)) ∧ (w2.alloc (.cells #[.int .u8 (q0 : Nat), .int .u8 (q1 : Nat), .int .u8 (q2 : Nat), .int .u8 (q3 : Nat)] 22)).cell? ⟨w.heap.size, 1, none⟩ = some (.int .u8 (p1 : Nat)) ∧ (w2.alloc (.cells #[.int .u8 (q0 : Nat), .int .u8 (q1 : Nat), .int .u8 (q2 : Nat), .int .u8 (q3 : Nat)] 22)).cell? ⟨w.heap.size, 2, none⟩ = some (.int .u8 (p2 : Nat)) ∧ (w2.alloc (.cells #[.int .u8 (q0 : Nat), .int .u8 (q1 : Nat), .int .u8 (q2 : Nat), .int .u8 (q3 : Nat)] 22)).cell? ⟨w.heap.size, 3, none⟩ = some (.int .u8 (p3 : Nat)) ∧ (w2.alloc (.cells #[.int .u8 (q0 : Nat), .int .u8 (q1 : Nat), .int .u8 (q2 : Nat), .int .u8 (q3 : Nat)] 22)).cell? ⟨w1.heap.size, 0, none⟩ = some (.int .u8 (q0 : Nat)) ∧ (w2.alloc (.cells #[.int .u8 (q0 : Nat), .int .u8 (q1 : Nat), .int .u8 (q2 : Nat), .int .u8 (q3 : Nat)] 22)).cell? ⟨w1.heap.size, 1, none⟩ = some (.int .u8 (q1 : Nat)) ∧ (w2.alloc (.cells #[.int .u8 (q0 : Nat), .int .u8 (q1 : Nat), .int .u8 (q2 : Nat), .int .u8 (q3 : Nat)] 22)).cell? ⟨w1.heap.size, 2, none⟩ = some (.int .u8 (q2 : Nat)) ∧ (w2.alloc (.cells #[.int .u8 (q0 : Nat), .int .u8 (q1 : Nat), .int .u8 (q2 : Nat), .int .u8 (q3 : Nat)] 22)).cell? ⟨w1.heap.size, 3, none⟩ = some (.int .u8 (q3 : Nat)) ∧ (w2.alloc (.cells #[.int .u8 (q0 : Nat), .int .u8 (q1 : Nat), .int .u8 (q2 : Nat), .int .u8 (q3 : Nat)] 22)).cell? ⟨w2.heap.size, 0, none⟩ = some (.int .u8 (q0 : Nat)) ∧ (w2.alloc (.cells #[.int .u8 (q0 : Nat), .int .u8 (q1 : Nat), .int .u8 (q2 : Nat), .int .u8 (q3 : Nat)] 22)).cell? ⟨w2.heap.size, 1, none⟩ = some (.int .u8 (q1 : Nat)) ∧ (w2.alloc (.cells #[.int .u8 (q0 : Nat), .int .u8 (q1 : Nat), .int .u8 (q2 : Nat), .int .u8 (q3 : Nat)] 22)).cell? ⟨w2.heap.size, 2, none⟩ = some (.int .u8 (q2 : Nat)) ∧ (w2.alloc (.cells #[.int .u8 (q0 : Nat), .int .u8 (q1 : Nat), .int .u8 (q2 : Nat), .int .u8 (q3 : Nat)] 22)).cell? ⟨w2.heap.size, 3, none⟩ = some (.int .u8 (q3 : Nat)) ∧ Below w.heap.size w (w2.alloc (.cells #[.int .u8 (q0 : Nat), .int .u8 (q1 : Nat), .int .u8 (q2 : Nat), .int .u8 (q3 : Nat)] 22)) ∧ w.heap.size ≤ (w2.alloc (.cells #[.int .u8 (q0 : Nat), .int .u8 (q1 : Nat), .int .u8 (q2 : Nat), .int .u8 (q3 : Nat)] 22)).heap.size from ⟨a0, a1, a2, a3, b0, b1, b2, b3, c0, c1, c2, c3, hb4, hb4.size⟩)
  clear hb3 hA3 hX3 hY3 hb4 hB2 a0 a1 a2 a3 b0 b1 b2 b3 c0 c1 c2 c3
  have HSD := Lib.hid (show (w2.alloc (.cells #[.int .u8 (q0 : Nat), .int .u8 (q1 : Nat), .int .u8 (q2 : Nat), .int .u8 (q3 : Nat)] 22)).drew.cell? ⟨w.heap.size, 0, none⟩ = some (.int .u8 (p0 : Nat)) ∧ (w2.alloc (.cells #[.int .u8 (q0 : Nat), .int .u8 (q1 : Nat), .int .u8 (q2 : Nat), .int .u8 (q3 : Nat)] 22)).drew.cell? ⟨w.heap.size, 1, none⟩ = some (.int .u8 (p1 : Nat)) ∧ (w2.alloc (.cells #[.int .u8 (q0 : Nat), .int .u8 (q1 : Nat), .int .u8 (q2 : Nat), .int .u8 (q3 : Nat)] 22)).drew.cell? ⟨w.heap.size, 2, none⟩ = some (.int .u8 (p2 : Nat)) ∧ (w2.alloc (.cells #[.int .u8 (q0 : Nat), .int .u8 (q1 : Nat), .int .u8 (q2 : Nat), .int .u8 (q3 : Nat)] 22)).drew.cell? ⟨w.heap.size, 3, none⟩ = some (.int .u8 (p3 : Nat)) ∧ (w2.alloc (.cells #[.int .u8 (q0 : Nat), .int .u8 (q1 : Nat), .int .u8 (q2 : Nat), .int .u8 (q3 : Nat)] 22)).drew.cell? ⟨w1.heap.size, 0, none⟩ = some (.int .u8 (q0 : Nat)) ∧ (w2.alloc (.cells #[.int .u8 (q0 : Nat), .int .u8 (q1 : Nat), .int .u8 (q2 : Nat), .int .u8 (q3 : Nat)] 22)).drew.cell? ⟨w1.heap.size, 1, none⟩ = some (.int .u8 (q1 : Nat)) ∧ (w2.alloc (.cells #[.int .u8 (q0 : Nat), .int .u8 (q1 : Nat), .int .u8 (q2 : Nat), .int .u8 (q3 : Nat)] 22)).drew.cell? ⟨w1.heap.size, 2, none⟩ = some (.int .u8 (q2 : Nat)) ∧ (w2.alloc (.cells #[.int .u8 (q0 : Nat), .int .u8 (q1 : Nat), .int .u8 (q2 : Nat), .int .u8 (q3 : Nat)] 22)).drew.cell? ⟨w1.heap.size, 3, none⟩ = some (.int .u8 (q3 : Nat)) ∧ (w2.alloc (.cells #[.int .u8 (q0 : Nat), .int .u8 (q1 : Nat), .int .u8 (q2 : Nat), .int .u8 (q3 : Nat)] 22)).drew.cell? ⟨w2.heap.size, 0, none⟩ = some (.int .u8 (q0 : Nat)) ∧ (w2.alloc (.cells #[.int .u8 (q0 : Nat), .int .u8 (q1 : Nat), .int .u8 (q2 : Nat), .int .u8 (q3 : Nat)] 22)).drew.cell? ⟨w2.heap.size, 1, none⟩ = some (.int .u8 (q1 : Nat)) ∧ (w2.alloc (.cells #[.int .u8 (q0 : Nat), .int .u8 (q1 : Nat), .int .u8 (q2 : Nat), .int .u8 (q3 : Nat)] 22)).drew.cell? ⟨w2.heap.size, 2, none⟩ = some (.int .u8 (q2 : Nat)) ∧ (w2.alloc (.cells #[.int .u8 (q0 : Nat), .int .u8 (q1 : Nat), .int .u8 (q2 : Nat), .int .u8 (q3 : Nat)] 22)).drew.cell? ⟨w2.heap.size, 3, none⟩ = some (.int .u8 (q3 : Nat)) ∧ Below w.heap.size w (w2.alloc (.cells #[.int .u8 (q0 : Nat), .int .u8 (q1 : Nat), .int .u8 (q2 : Nat), .int .u8 (q3 : Nat)] 22)).drew ∧ w.heap.size ≤ (w2.alloc (.cells #[.int .u8 (q0 : Nat), .int .u8 (q1 : Nat), .int .u8 (q2 : Nat), .int .u8 (q3 : Nat)] 22)).drew.heap.size from by
    obtain ⟨h0, h1, h2, h3, h4, h5, h6, h7, h8, h9, h10, h11, hB, hS⟩ := HS.out
    exact ⟨h0, h1, h2, h3, h4, h5, h6, h7, h8, h9, h10, h11, hB.drew, hS⟩)
  go_upto_region 3 with fail
  go_region_held3 (fun w' => w'.cell? ⟨w.heap.size, 0, none⟩ = some (.int .u8 (p0 : Nat)) ∧ w'.cell? ⟨w.heap.size, 1, none⟩ = some (.int .u8 (p1 : Nat)) ∧ w'.cell? ⟨w.heap.size, 2, none⟩ = some (.int .u8 (p2 : Nat)) ∧ w'.cell? ⟨w.heap.size, 3, none⟩ = some (.int .u8 (p3 : Nat)) ∧ w'.cell? ⟨w1.heap.size, 0, none⟩ = some (.int .u8 (q0 : Nat)) ∧ w'.cell? ⟨w1.heap.size, 1, none⟩ = some (.int .u8 (q1 : Nat)) ∧ w'.cell? ⟨w1.heap.size, 2, none⟩ = some (.int .u8 (q2 : Nat)) ∧ w'.cell? ⟨w1.heap.size, 3, none⟩ = some (.int .u8 (q3 : Nat)) ∧ w'.cell? ⟨w2.heap.size, 0, none⟩ = some (.int .u8 (q0 : Nat)) ∧ w'.cell? ⟨w2.heap.size, 1, none⟩ = some (.int .u8 (q1 : Nat)) ∧ w'.cell? ⟨w2.heap.size, 2, none⟩ = some (.int .u8 (q2 : Nat)) ∧ w'.cell? ⟨w2.heap.size, 3, none⟩ = some (.int .u8 (q3 : Nat)) ∧ Below w.heap.size w w' ∧ w.heap.size ≤ w'.heap.size)
    (with_reducible first | assumption | exact HS.out | exact HSD.out)
    (first
      | (go_at_call 11; with_reducible refine (PR.out _ (by with_reducible first | exact (last13 (by assumption)).1 | exact (last13 HS.out).1 | exact (last13 HSD.out).1)).mono ?_; rintro e1 w3 ⟨rfl, hB3⟩; have hS3 := keep13 (by with_reducible first | assumption | exact HS.out | exact HSD.out) hB3)
      | (go_at_call 12; with_reducible refine (RPR.out _).mono ?_; rintro e2 w4 ⟨rfl, hB4⟩; have hS4 := keep13 (by with_reducible first | assumption | exact HS.out | exact HSD.out) hB4)
      | (go_at_call 13; with_reducible refine (AW.out _ (by with_reducible first | exact (last13 (by assumption)).1 | exact (last13 HS.out).1 | exact (last13 HSD.out).1)).mono ?_; rintro e3 w5 ⟨rfl, hB5⟩; have hS5 := keep13 (by with_reducible first | assumption | exact HS.out | exact HSD.out) hB5))
  all_goals
    have HF := Lib.hid (last13 hS5).1
    clear hS3 hS4 hS5
    go_wp2_with fail
    go_ret
    exact ⟨rfl, HF.out⟩
end Go.Proofs.YtoldhhaplndkcaaDoor
