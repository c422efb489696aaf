/- riddlelaw6.AddrSixes: it answers true. -/
import Derived.Test.YtoldhhaplndkcaaDoorAwake
import Derived.Deep.RegionWith
import Derived.Deep.DrawnRows
namespace Go.Proofs.YtoldhhaplndkcaaDoor
open Go.RowKit Go.Shelf Go.Deep
set_option linter.unusedVariables false
set_option linter.unusedSimpArgs false
attribute [local go_sem ↓] Go.wp_at_zero Go.wp_at_succ

theorem p6_len (s : List UInt8) : ((p6L s).getD zero8).length = 8 ∧ ∀ g ∈ (p6L s).getD zero8, g < 65536 := by
  cases h : p6L s with
  | none => exact ⟨rfl, by decide⟩
  | some l => exact p6_lt h
set_option maxRecDepth 100000 in
set_option maxHeartbeats 3200000 in
theorem sixes_law (s : ByteArray) (gs : List Nat) (m : Int) (w : World) (hs : s.size ≤ 1048576) (h8 : gs.length = 8) (hg : ∀ g ∈ gs, g < 65536) (hG : Given m w) :
    Calls Tryd.prog 4 #[.string s, agg16 (bytesG gs)] w fun e w' => e = .returned (.bool true) ∧ Below w.heap.size w w' := by
  have pr := fun W (hW : Below w.heap.size w W) => print6_any gs W h8 hg (hG.later hW).deb
  have rpr := fun W => rprint6_any gs W h8 hg
  obtain ⟨X, hX⟩ : ∃ X, bs (print6L gs) = X := ⟨_, rfl⟩
  rw [hX] at pr rpr
  have pl : (bytesG gs).length = 16 := by rw [bytesG_len]; omega
  obtain ⟨P, hP⟩ : ∃ P, bytesG gs = P := ⟨_, rfl⟩
  rw [hP] at pr rpr pl ⊢
  have ql : (bytesG ((p6L s.data.toList).getD zero8)).length = 16 := by rw [bytesG_len]; have := (p6_len s.data.toList).1; omega
  obtain ⟨Q, hQ⟩ : ∃ Q, bytesG ((p6L s.data.toList).getD zero8) = Q := ⟨_, rfl⟩
  obtain ⟨er, her⟩ : ∃ er, err60 (p6L s.data.toList) = er := ⟨_, rfl⟩
  have pa := fun W (hW : Below w.heap.size w W) => parse6_any s m W hs (hG.later hW).max
  have rpa := fun W => rparse6_any s W hs
  rw [hQ, her] at pa rpa
  rw [hQ] at ql
  have aw : ∀ W, Below w.heap.size w W → Calls Tryd.prog 13 #[] W fun e w' => e = .returned (.bool true) ∧ Below W.heap.size W w' := fun W hW => awake_any m W (hG.later hW)
  have PR := Lib.hid pr
  have RPR := Lib.hid rpr
  have PA := Lib.hid pa
  have RPA := Lib.hid rpa
  have AW := Lib.hid aw
  have PL := Lib.hid pl
  have QL := Lib.hid ql
  have hA0 : ArrAt T16 (w.alloc (.cells (a16 P) T16)) w.heap.size P := ArrAt.new _ w P
  have hB0 : Below w.heap.size w (w.alloc (.cells (a16 P) T16)) := (Below.refl _ w).alloc (Nat.le_refl _) _
  have HA0 := Lib.hid hA0
  have HB0 := Lib.hid hB0
  clear pr rpr pa rpa aw hX hP hQ her hG h8 hg hA0 hB0 pl ql
  go_enter Tryd.func4, Tryd.ntmps4
  go_wp2_with fail
  (with_reducible refine (PA.out _ HB0.out).mono ?_)
  rintro e w1 ⟨rfl, hB1⟩
  have HA1 := Lib.hid ((HA0.out.later hB1).old (.cells (a16 Q) T16))
  have hb1 : Below w.heap.size w w1 := HB0.out.trans (hB1.mono HB0.out.size)
  have hb2 : Below w.heap.size w (w1.alloc (.cells (a16 Q) T16)) := hb1.alloc hb1.size _
  have HX1 := Lib.hid (show ArrAt T16 (w1.alloc (.cells (a16 Q) T16)) w1.heap.size Q from ArrAt.new _ w1 Q)
  have HB2 := Lib.hid hb2
  have st := run_storeA_new w1 #[.int .u8 0, .int .u8 0, .int .u8 0, .int .u8 0, .int .u8 0, .int .u8 0, .int .u8 0, .int .u8 0, .int .u8 0, .int .u8 0, .int .u8 0, .int .u8 0, .int .u8 0, .int .u8 0, .int .u8 0, .int .u8 0] Q rfl QL.out
  clear hB1 hb1 hb2
  go_wp2_with fail
  (with_reducible refine (RPA.out _).mono ?_)
  rintro e w2 ⟨rfl, hB2⟩
  clear st
  have st := run_storeA_new w2 #[.int .u8 0, .int .u8 0, .int .u8 0, .int .u8 0, .int .u8 0, .int .u8 0, .int .u8 0, .int .u8 0, .int .u8 0, .int .u8 0, .int .u8 0, .int .u8 0, .int .u8 0, .int .u8 0, .int .u8 0, .int .u8 0] Q rfl QL.out
  have hb3 := HB2.out.trans (hB2.mono HB2.out.size)
  have hA3 := (HA1.out.later hB2).old (.cells (a16 Q) T16)
  have hX3 := (HX1.out.later hB2).old (.cells (a16 Q) T16)
  have hY3 : ArrAt T16 (w2.alloc (.cells (a16 Q) T16)) w2.heap.size Q := ArrAt.new _ w2 Q
  have hb4 : Below w.heap.size w (w2.alloc (.cells (a16 Q) T16)) := hb3.alloc hb3.size _
  have e4 : ∀ W, (Op.equalIn 10000 T16 (.agg (a16 Q)) (.agg (a16 Q))).run Tryd.prog W = .ok true W := fun W => by
    have := eqIn_a16 W Q Q QL.out QL.out
    rw [decide_eq_true rfl] at this
    exact this
  have g1 : (X.toList == X.toList) = true := beq_self_eq_true _
  have g2 : ((er : Int) == (er : Int)) = true := beq_self_eq_true _
  have HA3 := Lib.hid hA3
  have HX3 := Lib.hid hX3
  have HY3 := Lib.hid hY3
  have HB4 := Lib.hid hb4
  clear hb3 hA3 hX3 hY3 hb4 hB2
  go_upto_region 3 with fail
  clear st
  have HA3d : Hid (ArrAt T16 (w2.alloc (.cells (a16 Q) T16)).drew w.heap.size P) := Lib.hid HA3.out
  have HB4d : Hid (Below w.heap.size w (w2.alloc (.cells (a16 Q) T16)).drew) := Lib.hid HB4.out.drew
  have ld1 : (loadA (.pointer (some ⟨w.heap.size, 0, none⟩))).run Tryd.prog (w2.alloc (.cells (a16 Q) T16)).drew = .ok (agg16 P) (w2.alloc (.cells (a16 Q) T16)).drew := run_loadA HA3d.out PL.out
  have ld2 : (loadA (.pointer (some ⟨w1.heap.size, 0, none⟩))).run Tryd.prog (w2.alloc (.cells (a16 Q) T16)).drew = .ok (agg16 Q) (w2.alloc (.cells (a16 Q) T16)).drew := run_loadA (show ArrAt T16 (w2.alloc (.cells (a16 Q) T16)).drew w1.heap.size Q from HX3.out) QL.out
  have ld3 : (loadA (.pointer (some ⟨w2.heap.size, 0, none⟩))).run Tryd.prog (w2.alloc (.cells (a16 Q) T16)).drew = .ok (agg16 Q) (w2.alloc (.cells (a16 Q) T16)).drew := run_loadA (show ArrAt T16 (w2.alloc (.cells (a16 Q) T16)).drew w2.heap.size Q from HY3.out) QL.out
  go_region_with
    (first
      | (go_at_call 16; with_reducible refine (PR.out _ HB4d.out).mono ?_; rintro e1 w3 ⟨rfl, hB3⟩; have ld4 := run_loadA (HA3d.out.later hB3) PL.out; have HB3 := Lib.hid (HB4d.out.trans (hB3.mono HB4d.out.size)); clear hB3)
      | (go_at_call 17; with_reducible refine (RPR.out _).mono ?_; rintro e2 w4 ⟨rfl, hB5⟩; have HB5 := Lib.hid (HB3.out.trans (hB5.mono HB3.out.size)); clear hB5)
      | (go_at_call 13; with_reducible refine (AW.out _ HB5.out).mono ?_; rintro e3 w5 ⟨rfl, hB6⟩; have HB6 := Lib.hid (HB5.out.trans (hB6.mono HB5.out.size)); clear hB6))
  all_goals
    clear ld1 ld2 ld3
    go_wp2_with fail
    go_ret
    exact ⟨rfl, HB6.out⟩
end Go.Proofs.YtoldhhaplndkcaaDoor
