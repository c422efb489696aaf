/- riddlelaw6.AddrBack: it answers true. -/
import Derived.Test.YtoldhhaplndkcaaDoorAwake
import Derived.Test.YtoldhhaplndkcaaDoorBack6
namespace Go.Proofs.YtoldhhaplndkcaaDoor
open Go.RowKit Go.Shelf Go.Deep
set_option linter.unusedVariables false
set_option linter.unusedSimpArgs false

set_option maxRecDepth 100000 in
set_option maxHeartbeats 3200000 in
theorem back_law (l : List Nat) (gs : List Nat) (s : ByteArray) (m : Int) (w : World) (h4 : l.length = 4) (hl : ∀ x ∈ l, x ≤ 255) (h8 : gs.length = 8) (hg : ∀ g ∈ gs, g < 65536) (hs : s.size ≤ 1048576) (hG : Given m w) :
    Calls Tryd.prog 6 #[agg4 l, agg16 (bytesG gs), .string s] w fun e w' => e = .returned (.bool true) ∧ Below w.heap.size w w' := by
  have pr4 := fun W (hW : Below w.heap.size w W) => print4_any l W h4 hl (hG.later hW).tab
  have pa4 := fun W (hW : Below w.heap.size w W) => parse4_any (bs (print4L l)) m W (by rw [bs_size]; have := print4_len (l := l) (by omega) hl; omega) (hG.later hW).max (hG.later hW).err (hG.later hW).tab
  rw [bs_list, p4_print h4 hl] at pa4
  obtain ⟨X4, hX4⟩ : ∃ X, bs (print4L l) = X := ⟨_, rfl⟩
  rw [hX4] at pr4 pa4
  have pr6 := fun W (hW : Below w.heap.size w W) => print6_any gs W h8 hg (hG.later hW).deb
  have pa6 := fun W (hW : Below w.heap.size w W) => parse6_any (bs (print6L gs)) m W (by rw [bs_size]; have := print6_len h8; omega) (hG.later hW).max
  rw [bs_list, p6_print h8 hg] at pa6
  obtain ⟨X6, hX6⟩ : ∃ X, bs (print6L gs) = X := ⟨_, rfl⟩
  rw [hX6] at pr6 pa6
  have pl : (bytesG gs).length = 16 := by rw [bytesG_len]; omega
  have pa6' : ∀ W, Below w.heap.size w W → Calls Tryd.prog 14 #[.string X6] W fun e w' => e = .returned (.tuple #[agg16 (bytesG gs), .int .i64 0]) ∧ Below W.heap.size W w' := pa6
  have pa7 := fun W (hW : Below w.heap.size w W) => parse6_any s m W hs (hG.later hW).max
  have aw : ∀ W, Below w.heap.size w W → Calls Tryd.prog 13 #[] W fun e w' => e = .returned (.bool true) ∧ Below W.heap.size W w' := fun W hW => awake_any m W (hG.later hW)
  have hdeb := fun W (hW : Below w.heap.size w W) => (hG.later hW)
  obtain ⟨P, hP⟩ : ∃ P, bytesG gs = P := ⟨_, rfl⟩
  rw [hP] at pr6 pa6' pl ⊢
  obtain ⟨p0, p1, p2, p3, rfl⟩ := four_of h4
  have pr4' : ∀ W, Below w.heap.size w W → Calls Tryd.prog 11 #[.agg #[.int .u8 (p0 : Nat), .int .u8 (p1 : Nat), .int .u8 (p2 : Nat), .int .u8 (p3 : Nat)]] W fun e w' => e = .returned (.string X4) ∧ Below W.heap.size W w' := pr4
  have pa4' : ∀ W, Below w.heap.size w W → Calls Tryd.prog 9 #[.string X4] W fun e w' => e = .returned (.tuple #[.agg #[.int .u8 (p0 : Nat), .int .u8 (p1 : Nat), .int .u8 (p2 : Nat), .int .u8 (p3 : Nat)], .int .i64 0]) ∧ Below W.heap.size W w' := pa4
  have e4 : ∀ W, (Op.equalIn 10000 22 (.agg #[.int .u8 (p0 : Nat), .int .u8 (p1 : Nat), .int .u8 (p2 : Nat), .int .u8 (p3 : Nat)]) (.agg #[.int .u8 (p0 : Nat), .int .u8 (p1 : Nat), .int .u8 (p2 : Nat), .int .u8 (p3 : Nat)])).run Tryd.prog W = .ok true W := fun W => by
    have := eqIn_a4 W [p0, p1, p2, p3] [p0, p1, p2, p3] rfl rfl
    rw [decide_eq_true rfl] at this
    exact this
  have e6 : ∀ (Q : List Nat) W, Q.length = 16 → (Op.equalIn 10000 T16 (.agg (a16 Q)) (.agg (a16 Q))).run Tryd.prog W = .ok true W := fun Q W hQ => by
    have := eqIn_a16 W Q Q hQ hQ
    rw [decide_eq_true rfl] at this
    exact this
  have PR4 := Lib.hid pr4'
  have PA4 := Lib.hid pa4'
  have PR6 := Lib.hid pr6
  have PA6 := Lib.hid pa6'
  have PA7 := Lib.hid pa7
  have AW := Lib.hid aw
  have GV := Lib.hid hdeb
  have PL := Lib.hid pl
  have E6 := Lib.hid e6
  have e6P := fun W => e6 P W pl
  have hA4 : ArrAt 22 (w.alloc (.cells #[.int .u8 (p0 : Nat), .int .u8 (p1 : Nat), .int .u8 (p2 : Nat), .int .u8 (p3 : Nat)] 22)) w.heap.size [p0, p1, p2, p3] := ArrAt.new _ w [p0, p1, p2, p3]
  obtain ⟨W1, hW1⟩ : ∃ W, (w.alloc (.cells #[.int .u8 (p0 : Nat), .int .u8 (p1 : Nat), .int .u8 (p2 : Nat), .int .u8 (p3 : Nat)] 22)).alloc (.cells (a16 P) T16) = W := ⟨_, rfl⟩
  have hA1 : ArrAt 22 W1 w.heap.size [p0, p1, p2, p3] := by rw [← hW1]; exact hA4.old _
  have hB1 : ArrAt T16 W1 (w.heap.size + 1) P := by
    rw [← hW1]
    have := ArrAt.new T16 (w.alloc (.cells #[.int .u8 (p0 : Nat), .int .u8 (p1 : Nat), .int .u8 (p2 : Nat), .int .u8 (p3 : Nat)] 22)) P
    rwa [World.size_alloc] at this
  have hb1 : Below w.heap.size w W1 := by
    rw [← hW1]
    exact ((Below.refl _ w).alloc (Nat.le_refl _) _).alloc (by simp) _
  have HA1 := Lib.hid hA1
  have HB1 := Lib.hid hB1
  have Hb1 := Lib.hid hb1
  show Calls Tryd.prog 6 #[.agg #[.int .u8 (p0 : Nat), .int .u8 (p1 : Nat), .int .u8 (p2 : Nat), .int .u8 (p3 : Nat)], agg16 P, .string s] w _
  have a0 := hA1.cell (i := 0) rfl
  have a1 := hA1.cell (i := 1) rfl
  have a2 := hA1.cell (i := 2) rfl
  have a3 := hA1.cell (i := 3) rfl
  clear pr4 pa4 pr4' pa4' pr6 pa6 pa6' pa7 aw hdeb hX4 hX6 hP hG h8 hg hl h4 hA4 hA1 hB1 hb1 pl e6
  go_enter Tryd.func6, Tryd.ntmps6
  go_wp2_with fail
  (with_reducible refine (PR4.out _ Hb1.out).mono ?_)
  rintro e w2 ⟨rfl, hB2⟩
  clear a0 a1 a2 a3 hW1
  have Hb2 := Lib.hid (Hb1.out.trans (hB2.mono Hb1.out.size))
  have HA2 := Lib.hid (HA1.out.later hB2)
  have HB2 := Lib.hid (HB1.out.later hB2)
  clear hB2
  go_wp2_with fail
  (with_reducible refine (PA4.out _ Hb2.out).mono ?_)
  rintro e w3 ⟨rfl, hB3⟩
  have hb3 := Hb2.out.trans (hB3.mono Hb2.out.size)
  obtain ⟨W3, hW3⟩ : ∃ W, w3.alloc (.cells #[.int .u8 (p0 : Nat), .int .u8 (p1 : Nat), .int .u8 (p2 : Nat), .int .u8 (p3 : Nat)] 22) = W := ⟨_, rfl⟩
  have hbb : Below w3.heap.size w3 W3 := by rw [← hW3]; exact (Below.refl _ w3).alloc (Nat.le_refl _) _
  have HA3 := Lib.hid ((HA2.out.later hB3).later hbb)
  have HB3 := Lib.hid ((HB2.out.later hB3).later hbb)
  have HX3 := Lib.hid (show ArrAt 22 W3 w3.heap.size [p0, p1, p2, p3] by rw [← hW3]; exact ArrAt.new _ w3 [p0, p1, p2, p3])
  have Hb3 := Lib.hid (hb3.trans (hbb.mono hb3.size))
  have ld := run_loadA HB3.out PL.out
  clear hB3 hb3 hbb
  go_wp2_with fail
  (with_reducible refine (PR6.out _ Hb3.out).mono ?_)
  rintro e w4 ⟨rfl, hB4⟩
  clear ld hW3
  have HA4 := Lib.hid (HA3.out.later hB4)
  have HB4 := Lib.hid (HB3.out.later hB4)
  have HX4 := Lib.hid (HX3.out.later hB4)
  have Hb4 := Lib.hid (Hb3.out.trans (hB4.mono Hb3.out.size))
  clear hB4
  go_wp2_with fail
  (with_reducible refine (PA6.out _ Hb4.out).mono ?_)
  rintro e w5 ⟨rfl, hB5⟩
  have st := run_storeA_new w5 #[.int .u8 0, .int .u8 0, .int .u8 0, .int .u8 0, .int .u8 0, .int .u8 0, .int .u8 0, .int .u8 0, .int .u8 0, .int .u8 0, .int .u8 0, .int .u8 0, .int .u8 0, .int .u8 0, .int .u8 0, .int .u8 0] P rfl PL.out
  have hb5 := Hb4.out.trans (hB5.mono Hb4.out.size)
  obtain ⟨W5, hW5⟩ : ∃ W, w5.alloc (.cells (a16 P) T16) = W := ⟨_, rfl⟩
  have hbb : Below w5.heap.size w5 W5 := by rw [← hW5]; exact (Below.refl _ w5).alloc (Nat.le_refl _) _
  have hA5 := (HA4.out.later hB5).later hbb
  have hB5' := (HB4.out.later hB5).later hbb
  have hX5 := (HX4.out.later hB5).later hbb
  have HY5 : Hid (ArrAt T16 W5 w5.heap.size P) := Lib.hid (by rw [← hW5]; exact ArrAt.new _ w5 P)
  have Hb5 := Lib.hid (hb5.trans (hbb.mono hb5.size))
  have a0 := hA5.cell (i := 0) rfl
  have a1 := hA5.cell (i := 1) rfl
  have a2 := hA5.cell (i := 2) rfl
  have a3 := hA5.cell (i := 3) rfl
  have x0 := hX5.cell (i := 0) rfl
  have x1 := hX5.cell (i := 1) rfl
  have x2 := hX5.cell (i := 2) rfl
  have x3 := hX5.cell (i := 3) rfl
  have ld1 := run_loadA hB5' PL.out
  have ld2 := run_loadA HY5.out PL.out
  clear hB5 hb5 hbb hA5 hB5' hX5
  have c7 := PA7.out _ Hb5.out
  cases hp : p6L s.data.toList with
  | none =>
    rw [hp] at c7
    have C7 := Lib.hid (show Calls Tryd.prog 14 #[.string s] W5 fun e w' => e = .returned (.tuple #[agg16 zero16, .int .i64 60]) ∧ Below W5.heap.size W5 w' from c7)
    clear hp c7
    go_wp2_with fail
    (with_reducible refine C7.out.mono ?_)
    rintro e w6 ⟨rfl, hB6⟩
    clear ld1 ld2 a0 a1 a2 a3 x0 x1 x2 x3 st hW5
    have st := run_storeA_new w6 #[.int .u8 0, .int .u8 0, .int .u8 0, .int .u8 0, .int .u8 0, .int .u8 0, .int .u8 0, .int .u8 0, .int .u8 0, .int .u8 0, .int .u8 0, .int .u8 0, .int .u8 0, .int .u8 0, .int .u8 0, .int .u8 0] zero16 rfl rfl
    have hb6 := Hb5.out.trans (hB6.mono Hb5.out.size)
    have hZ : ArrAt T16 (w6.alloc (.cells (a16 zero16) T16)) w6.heap.size zero16 := ArrAt.new _ w6 zero16
    have ld := run_loadA hZ rfl
    have ez : ∀ W, (Op.equalIn 10000 T16 (.agg (a16 zero16)) (.agg #[.int .u8 0, .int .u8 0, .int .u8 0, .int .u8 0, .int .u8 0, .int .u8 0, .int .u8 0, .int .u8 0, .int .u8 0, .int .u8 0, .int .u8 0, .int .u8 0, .int .u8 0, .int .u8 0, .int .u8 0, .int .u8 0])).run Tryd.prog W = .ok true W := fun W => E6.out zero16 W rfl
    have Hb6 := Lib.hid (hb6.alloc hb6.size (.cells (a16 zero16) T16))
    clear hB6 hb6 hZ
    go_wp2_with fail
    (with_reducible refine (AW.out _ Hb6.out).mono ?_)
    rintro e w7 ⟨rfl, hB7⟩
    have HF := Lib.hid (Hb6.out.trans (hB7.mono Hb6.out.size))
    clear hB7 ld st
    go_wp2_with fail
    go_ret
    exact ⟨rfl, HF.out⟩
  | some zs =>
    obtain ⟨z8, zg⟩ := p6_lt hp
    rw [hp] at c7
    have C7 := Lib.hid (show Calls Tryd.prog 14 #[.string s] W5 fun e w' => e = .returned (.tuple #[agg16 (bytesG zs), .int .i64 0]) ∧ Below W5.heap.size W5 w' from c7)
    have pr8 := fun W (hW : Below w.heap.size w W) => print6_any zs W z8 zg (GV.out W hW).deb
    have pa8 := fun W (hW : Below w.heap.size w W) => parse6_any (bs (print6L zs)) m W (by rw [bs_size]; have := print6_len z8; omega) (GV.out W hW).max
    rw [bs_list, p6_print z8 zg] at pa8
    have hlen : ((bs (print6L zs)).size : Int) ≤ 39 := by rw [bs_size]; have := print6_len z8; omega
    have pa9 : ∀ W, Below w.heap.size w W → Calls Tryd.prog 14 #[.string (bs (print6L zs))] W fun e w' => e = .returned (.tuple #[agg16 (bytesG zs), .int .i64 0]) ∧ Below W.heap.size W w' := pa8
    obtain ⟨X, hX⟩ : ∃ X, bs (print6L zs) = X := ⟨_, rfl⟩
    have ql : (bytesG zs).length = 16 := by rw [bytesG_len]; omega
    obtain ⟨Q, hQ⟩ : ∃ Q, bytesG zs = Q := ⟨_, rfl⟩
    rw [hX] at hlen
    rw [hQ] at ql C7
    simp only [hX, hQ] at pr8 pa9
    have PR8 := Lib.hid pr8
    have PA9 := Lib.hid pa9
    have QL := Lib.hid ql
    have eQ := fun W => E6.out Q W ql
    have t1 : (X.toList == X.toList) = true := beq_self_eq_true _
    clear hp c7 z8 zg pr8 pa8 pa9 hX hQ ql
    go_wp2_with fail
    (with_reducible refine C7.out.mono ?_)
    rintro e w6 ⟨rfl, hB6⟩
    clear ld1 ld2 a0 a1 a2 a3 x0 x1 x2 x3 st hW5
    have st := run_storeA_new w6 #[.int .u8 0, .int .u8 0, .int .u8 0, .int .u8 0, .int .u8 0, .int .u8 0, .int .u8 0, .int .u8 0, .int .u8 0, .int .u8 0, .int .u8 0, .int .u8 0, .int .u8 0, .int .u8 0, .int .u8 0, .int .u8 0] Q rfl QL.out
    have hb6 := Hb5.out.trans (hB6.mono Hb5.out.size)
    have hZ : ArrAt T16 (w6.alloc (.cells (a16 Q) T16)) w6.heap.size Q := ArrAt.new _ w6 Q
    have HZ := Lib.hid hZ
    have ld := run_loadA hZ QL.out
    have Hb6 := Lib.hid (hb6.alloc hb6.size (.cells (a16 Q) T16))
    clear hB6 hb6 hZ
    go_wp2_with fail
    (with_reducible refine (PR8.out _ Hb6.out).mono ?_)
    rintro e w7 ⟨rfl, hB7⟩
    clear ld st
    have HZ7 := Lib.hid (HZ.out.later hB7)
    have Hb7 := Lib.hid (Hb6.out.trans (hB7.mono Hb6.out.size))
    clear hB7
    go_wp2_with fail
    (with_reducible refine (PA9.out _ Hb7.out).mono ?_)
    rintro e w8 ⟨rfl, hB8⟩
    have st := run_storeA_new w8 #[.int .u8 0, .int .u8 0, .int .u8 0, .int .u8 0, .int .u8 0, .int .u8 0, .int .u8 0, .int .u8 0, .int .u8 0, .int .u8 0, .int .u8 0, .int .u8 0, .int .u8 0, .int .u8 0, .int .u8 0, .int .u8 0] Q rfl QL.out
    have hb8 := Hb7.out.trans (hB8.mono Hb7.out.size)
    have ld1 := run_loadA ((HZ7.out.later hB8).old (.cells (a16 Q) T16)) QL.out
    have hV : ArrAt T16 (w8.alloc (.cells (a16 Q) T16)) w8.heap.size Q := ArrAt.new _ w8 Q
    have ld2 := run_loadA hV QL.out
    have Hb8 := Lib.hid (hb8.alloc hb8.size (.cells (a16 Q) T16))
    clear hB8 hb8 hV
    go_wp2_with fail
    (with_reducible refine (PR8.out _ Hb8.out).mono ?_)
    rintro e w9 ⟨rfl, hB9⟩
    clear ld1 ld2 st
    have Hb9 := Lib.hid (Hb8.out.trans (hB9.mono Hb8.out.size))
    clear hB9
    go_wp2_with fail
    (with_reducible refine (AW.out _ Hb9.out).mono ?_)
    rintro e w10 ⟨rfl, hB10⟩
    have HF := Lib.hid (Hb9.out.trans (hB10.mono Hb9.out.size))
    clear hB10
    go_wp2_with fail
    go_ret
    exact ⟨rfl, HF.out⟩
end Go.Proofs.YtoldhhaplndkcaaDoor
