/- riddlelaw6.awake: it answers true. -/
import Derived.Test.YtoldhhaplndkcaaDoorEqA
namespace Go.Proofs.YtoldhhaplndkcaaDoor
open Go.RowKit Go.Shelf Go.Deep
set_option linter.unusedVariables false
set_option linter.unusedSimpArgs false

def aw4 : List UInt8 := [49, 48, 46, 48, 46, 48, 46, 50, 53, 53]
def aw6 : List UInt8 := [49, 58, 58, 50]
def awG : List Nat := [1, 0, 0, 0, 0, 0, 0, 2]
def awB : List Nat := bytesG awG
theorem aw_p4 : p4L aw4 = some [10, 0, 0, 255] := by kernel_rfl
theorem aw_p6 : p6L aw6 = some awG := by kernel_rfl
theorem aw_pr4 : print4L [10, 0, 0, 255] = aw4 := by kernel_rfl
theorem aw_pr6 : print6L awG = aw6 := by kernel_rfl
theorem aw_net : netE [10, 11, 12, 13] 12 = 0 ∧ maskL 12 [10, 11, 12, 13] = [10, 0, 0, 0] := by decide
theorem aw_in : inL [10, 1, 2, 3] [10, 0, 0, 0] 8 = (true, 0) := by decide
set_option maxRecDepth 100000 in
set_option maxHeartbeats 1600000 in
theorem awake_any (m : Int) (w : World) (hG : Given m w) : Calls Tryd.prog 13 #[] w fun e w' => e = .returned (.bool true) ∧ Below w.heap.size w w' := by
  have c1 := parse4_any (bs aw4) m w (by decide) hG.max hG.err hG.tab
  rw [bs_list, aw_p4] at c1
  have c1' : Calls Tryd.prog 9 #[.string ⟨#[49, 48, 46, 48, 46, 48, 46, 50, 53, 53]⟩] w fun e w' => e = .returned (.tuple #[.agg #[.int .u8 10, .int .u8 0, .int .u8 0, .int .u8 255], .int .i64 0]) ∧ Below w.heap.size w w' := c1
  have C1 := Lib.hid c1'
  have HG := Lib.hid hG
  clear c1 c1' hG
  go_enter Tryd.func13, Tryd.ntmps13
  go_wp2_with fail
  (with_reducible refine C1.out.mono ?_)
  rintro e w1 ⟨rfl, hB1⟩
  have HG1 := Lib.hid (HG.out.later hB1)
  have HB1 := Lib.hid hB1
  have hbA : Below w1.heap.size w1 (w1.alloc (.cells #[.int .u8 10, .int .u8 0, .int .u8 0, .int .u8 255] 22)) := (Below.refl _ w1).alloc (Nat.le_refl _) _
  have c2 := parse6_any (bs aw6) m _ (by decide) (HG1.out.later hbA).max
  rw [bs_list, aw_p6] at c2
  have c2' : Calls Tryd.prog 14 #[.string ⟨#[49, 58, 58, 50]⟩] (w1.alloc (.cells #[.int .u8 10, .int .u8 0, .int .u8 0, .int .u8 255] 22)) fun e w' => e = .returned (.tuple #[agg16 awB, .int .i64 0]) ∧ Below (w1.heap.size + 1) (w1.alloc (.cells #[.int .u8 10, .int .u8 0, .int .u8 0, .int .u8 255] 22)) w' := by
    rw [World.size_alloc] at c2
    exact c2
  have C2 := Lib.hid c2'
  have hA4 : ArrAt 22 (w1.alloc (.cells #[.int .u8 10, .int .u8 0, .int .u8 0, .int .u8 255] 22)) w1.heap.size [10, 0, 0, 255] := ArrAt.new _ w1 [10, 0, 0, 255]
  have HA4 := Lib.hid hA4
  have HBA := Lib.hid (HB1.out.trans (hbA.mono HB1.out.size))
  clear hB1 hbA c2 c2' hA4
  go_wp2_with fail
  (with_reducible refine C2.out.mono ?_)
  rintro e w2 ⟨rfl, hB2⟩
  have hb2 : w.heap.size ≤ w1.heap.size + 1 := by have := HBA.out.size; simp at this; omega
  have hB2' : Below w.heap.size w w2 := HBA.out.trans (hB2.mono hb2)
  have HA4 := Lib.hid (HA4.out.later (by rw [World.size_alloc]; exact hB2))
  have HB2 := Lib.hid hB2'
  clear hB2 hB2' hb2
  have st := run_storeA_new w2 #[.int .u8 0, .int .u8 0, .int .u8 0, .int .u8 0, .int .u8 0, .int .u8 0, .int .u8 0, .int .u8 0, .int .u8 0, .int .u8 0, .int .u8 0, .int .u8 0, .int .u8 0, .int .u8 0, .int .u8 0, .int .u8 0] awB rfl rfl
  have hA6 : ArrAt T16 (w2.alloc (.cells (a16 awB) T16)) w2.heap.size awB := ArrAt.new T16 w2 awB
  have HA6 := Lib.hid (hA6.old (.cells (flatG encU1 [10, 11, 12, 13]).toArray 5))
  have HA4 := Lib.hid ((HA4.out.old (.cells (a16 awB) T16)).old (.cells (flatG encU1 [10, 11, 12, 13]).toArray 5))
  obtain ⟨W3, hW3⟩ : ∃ W, (w2.alloc (.cells (a16 awB) T16)).alloc (.cells (flatG encU1 [10, 11, 12, 13]).toArray 5) = W := ⟨_, rfl⟩
  have hB3 : Below w.heap.size w W3 := by
    rw [← hW3]
    exact (HB2.out.alloc HB2.out.size _).alloc (by have := HB2.out.size; simp; omega) _
  have hR3 : Rs encU1 W3 (some ⟨w2.heap.size + 1, 0, none⟩) [10, 11, 12, 13] := by
    rw [← hW3]
    have := rs_new (w := w2.alloc (.cells (a16 awB) T16)) (enc := encU1) (l := [10, 11, 12, 13]) (t := 5)
    rwa [World.size_alloc] at this
  have c3 := net_yes (some ⟨w2.heap.size + 1, 0, none⟩) 4 [10, 11, 12, 13] 12 W3 4 hR3 rfl aw_net.1
  have e3 : (w2.alloc (.cells (a16 awB) T16)).alloc (.cells #[.int .u8 10, .int .u8 11, .int .u8 12, .int .u8 13] 5) = W3 := hW3
  have C3 := Lib.hid c3
  have HB3 := Lib.hid hB3
  rw [hW3] at HA4 HA6
  clear hA6 hB3 hR3 c3 hW3
  go_wp2_with fail
  (with_reducible refine C3.out.mono ?_)
  rintro e w4 ⟨A4, c4, rfl, hR4, hB4⟩
  rw [aw_net.2] at hR4
  have HA4 := Lib.hid (HA4.out.later hB4)
  have HA6 := Lib.hid (HA6.out.later hB4)
  have HB4 := Lib.hid (HB3.out.trans (hB4.mono HB3.out.size))
  have HR4 := Lib.hid hR4
  clear hB4 hR4 e3 st
  obtain ⟨W5, hW5⟩ : ∃ W, (w4.alloc (.cells (flatG encU1 [10, 1, 2, 3]).toArray 5)).alloc (.cells (flatG encU1 [10, 0, 0, 0]).toArray 5) = W := ⟨_, rfl⟩
  have hb5 : Below w4.heap.size w4 W5 := by
    rw [← hW5]
    exact ((Below.refl _ w4).alloc (Nat.le_refl _) _).alloc (by simp) _
  have hRa : Rs encU1 W5 (some ⟨w4.heap.size, 0, none⟩) [10, 1, 2, 3] := by
    rw [← hW5]
    exact (rs_new (w := w4) (enc := encU1) (l := [10, 1, 2, 3]) (t := 5)).later ((Below.refl _ _).alloc (Nat.le_refl _) _)
  have hRb : Rs encU1 W5 (some ⟨w4.heap.size + 1, 0, none⟩) [10, 0, 0, 0] := by
    rw [← hW5]
    have := rs_new (w := w4.alloc (.cells (flatG encU1 [10, 1, 2, 3]).toArray 5)) (enc := encU1) (l := [10, 0, 0, 0]) (t := 5)
    rwa [World.size_alloc] at this
  have c5 := in_any (some ⟨w4.heap.size, 0, none⟩) (some ⟨w4.heap.size + 1, 0, none⟩) 4 4 [10, 1, 2, 3] [10, 0, 0, 0] 8 W5 hRa hRb (by decide)
  rw [aw_in] at c5
  have C5 := Lib.hid (show Calls Tryd.prog 25 #[.slice (some ⟨w4.heap.size, 0, none⟩) 4 4, .slice (some ⟨w4.heap.size + 1, 0, none⟩) 4 4, .int .i64 8] W5 _ from c5)
  have e5 : (w4.alloc (.cells #[.int .u8 10, .int .u8 1, .int .u8 2, .int .u8 3] 5)).alloc (.cells #[.int .u8 10, .int .u8 0, .int .u8 0, .int .u8 0] 5) = W5 := hW5
  have HA4 := Lib.hid (HA4.out.later hb5)
  have HA6 := Lib.hid (HA6.out.later hb5)
  have HR4 := Lib.hid (HR4.out.later hb5)
  have HB5 := Lib.hid (HB4.out.trans (hb5.mono HB4.out.size))
  clear hb5 hRa hRb c5 hW5
  go_wp2_with fail
  (with_reducible refine C5.out.mono ?_)
  rintro e w6 ⟨rfl, hB6⟩
  have HA4 := Lib.hid (HA4.out.later hB6)
  have HA6 := Lib.hid (HA6.out.later hB6)
  have HR4 := Lib.hid (HR4.out.later hB6)
  have HB6 := Lib.hid (HB5.out.trans (hB6.mono HB5.out.size))
  clear hB6 e5
  have a0 := HA4.out.cell (i := 0) rfl
  have a1 := HA4.out.cell (i := 1) rfl
  have a2 := HA4.out.cell (i := 2) rfl
  have a3 := HA4.out.cell (i := 3) rfl
  have b1 := HA6.out.cell (i := 1) (x := 1) (by decide)
  have b2 := HA6.out.cell (i := 15) (x := 2) (by decide)
  have e4 : ∀ W, (Op.equalIn 10000 22 (.agg #[.int .u8 10, .int .u8 0, .int .u8 0, .int .u8 255]) (.agg #[.int .u8 10, .int .u8 0, .int .u8 0, .int .u8 255])).run Tryd.prog W = .ok true W := fun W => eqIn_a4 W [10, 0, 0, 255] [10, 0, 0, 255] rfl rfl
  have c7 := print4_any [10, 0, 0, 255] w6 rfl (by decide) (HG.out.later HB6.out).tab
  rw [aw_pr4] at c7
  have C7 := Lib.hid (show Calls Tryd.prog 11 #[.agg #[.int .u8 10, .int .u8 0, .int .u8 0, .int .u8 255]] w6 _ from c7)
  have t7 : ((bs aw4).toList == [49, 48, 46, 48, 46, 48, 46, 50, 53, 53]) = true := by rw [ByteArray.toList_eq, bs_list]; decide
  have t8 : ((bs aw6).toList == [49, 58, 58, 50]) = true := by rw [ByteArray.toList_eq, bs_list]; decide
  clear c7
  go_wp2_with fail
  (with_reducible refine C7.out.mono ?_)
  rintro e w7 ⟨rfl, hB7⟩
  have HA6 := Lib.hid (HA6.out.later hB7)
  have HR4 := Lib.hid (HR4.out.later hB7)
  have HB7 := Lib.hid (HB6.out.trans (hB7.mono HB6.out.size))
  clear hB7
  have ld := run_loadA HA6.out rfl
  have c8 := print6_any awG w7 rfl (by decide) (HG.out.later HB7.out).deb
  rw [aw_pr6] at c8
  have C8 := Lib.hid (show Calls Tryd.prog 16 #[agg16 awB] w7 _ from c8)
  clear c8
  go_wp2_with fail
  (with_reducible refine C8.out.mono ?_)
  rintro e w8 ⟨rfl, hB8⟩
  have HR4 := Lib.hid (HR4.out.later hB8)
  have HB8 := Lib.hid (HB7.out.trans (hB8.mono HB7.out.size))
  clear hB8 ld
  obtain ⟨W9, hW9⟩ : ∃ W, w8.alloc (.cells (flatG encU1 [10, 0, 0, 0]).toArray 5) = W := ⟨_, rfl⟩
  have hb9 : Below w8.heap.size w8 W9 := by
    rw [← hW9]
    exact (Below.refl _ w8).alloc (Nat.le_refl _) _
  have hR9 : Rs encU1 W9 (some ⟨w8.heap.size, 0, none⟩) [10, 0, 0, 0] := by
    rw [← hW9]
    exact rs_new (w := w8) (enc := encU1) (l := [10, 0, 0, 0]) (t := 5)
  have c9 := sameU_yes A4 (some ⟨w8.heap.size, 0, none⟩) c4 4 [10, 0, 0, 0] W9 (HR4.out.later hb9) hR9 (by decide)
  have C9 := Lib.hid (show Calls Tryd.prog 23 #[.slice A4 4 c4, .slice (some ⟨w8.heap.size, 0, none⟩) 4 4] W9 _ from c9)
  have e9 : w8.alloc (.cells #[.int .u8 10, .int .u8 0, .int .u8 0, .int .u8 0] 5) = W9 := hW9
  have HB9 := Lib.hid (HB8.out.trans (hb9.mono HB8.out.size))
  clear hb9 hR9 c9 hW9
  go_wp2_with fail
  (with_reducible refine C9.out.mono ?_)
  rintro e w10 ⟨rfl, hB10⟩
  have HB10 := Lib.hid (HB9.out.trans (hB10.mono HB9.out.size))
  clear hB10
  go_wp2_with fail
  go_ret
  exact ⟨rfl, HB10.out⟩
end Go.Proofs.YtoldhhaplndkcaaDoor
