/- Instructions' equality; riddlelaw3.awake: it answers true. -/
import Derived.Test.YtckbcmoanadckaaDoorPrint
import Derived.WalkSpells
import Derived.WalkLawsBesides
namespace Go.Proofs.YtckbcmoanadckaaDoor
open Go.RowKit Go.Shelf Go.Deep
set_option linter.unusedVariables false
set_option linter.unusedSimpArgs false

set_option maxRecDepth 100000 in
theorem run_equalIn_ins (w : World) (a b c d a' b' c' d' : Int) : (Op.equalIn 10000 25 (.agg #[.int .u16 a, .int .u8 b, .int .u8 c, .int .u32 d]) (.agg #[.int .u16 a', .int .u8 b', .int .u8 c', .int .u32 d'])).run Tryd.prog w = .ok (decide ((a, b, c, d) = (a', b', c', d'))) w := by
  rw [run_equalIn_struct w 9999 _ _ _ Tryd.underlying25 Tryd.stoodInHeld25]
  simp only [Program.fieldsOf, Tryd.underlying25, Op.eqFields, part, ne_eq, String.reduceEq, not_false_eq_true, if_true, Sem.run_bind, Sem.run_ite, Sem.run_pure, Result.andThen_ok]
  simp only [Tryd.isAgg22, Tryd.isAgg5, Tryd.isAgg23, Result.andThen_ok, if_true, if_false, Bool.false_eq_true, Sem.run_pure,
    List.getElem?_toArray, List.getElem?_cons_zero, List.getElem?_cons_succ, Array.getElem?_eq_getElem, run_equalIn_int w 9998 22 .u16 .u16 _ _ Tryd.underlying22, run_equalIn_int w 9998 5 .u8 .u8 _ _ Tryd.underlying5, run_equalIn_int w 9998 23 .u32 .u32 _ _ Tryd.underlying23]
  have he : ∀ p q : Int, (!p == q) = true ↔ ¬ p = q := fun p q => by simp
  simp only [he]
  simp only [Prod.mk.injEq]
  by_cases h1 : a = a'
  case neg => simp [h1]
  by_cases h2 : b = b'
  case neg => simp [h2]
  by_cases h3 : c = c'
  case neg => simp [h3]
  by_cases h4 : d = d'
  case neg => simp [h4]
  simp [h1, h2, h3, h4]
/-- Are two instructions one? A name that the walk doesn't open. -/
def inB (a b c d a' b' c' d' : Int) : Bool := decide ((a, b, c, d) = (a', b', c', d'))
theorem inB_eq (x y : Ins) : inB x.code x.jt x.jf x.k y.code y.jt y.jf y.k = decide (x = y) := by
  obtain ⟨a, b, c, d⟩ := x
  obtain ⟨a', b', c', d'⟩ := y
  unfold inB
  rw [decide_eq_decide]
  simp only [Prod.mk.injEq, Ins.mk.injEq]
  omega
section
variable (w : World) (a b c d a' b' c' d' : Int)
@[go_sem high] theorem run_eql_ins : (binOp .eql 25 (.agg #[.int .u16 a, .int .u8 b, .int .u8 c, .int .u32 d]) (.agg #[.int .u16 a', .int .u8 b', .int .u8 c', .int .u32 d'])).run Tryd.prog w = .ok (.bool (inB a b c d a' b' c' d')) w := by
  rw [run_eql_struct, run_equalIn_ins w a b c d a' b' c' d']
  rfl
@[go_sem high] theorem run_neq_ins : (binOp .neq 25 (.agg #[.int .u16 a, .int .u8 b, .int .u8 c, .int .u32 d]) (.agg #[.int .u16 a', .int .u8 b', .int .u8 c', .int .u32 d'])).run Tryd.prog w = .ok (.bool (!inB a b c d a' b' c' d')) w := by
  rw [run_neq_struct, run_equalIn_ins w a b c d a' b' c' d']
  rfl
end
def aw1 : List Ins := [⟨7, 0, 0, 0⟩, ⟨6, 0, 0, 7⟩]
def aw2 : List UInt8 := [108, 100, 104, 32, 91, 49, 50, 93, 10, 114, 101, 116, 32, 97]
theorem aw1_text : printT aw1 = [116, 97, 120, 10, 114, 101, 116, 32, 35, 55, 10] := by kernel_rfl
theorem aw1_err : printE aw1 = 0 := by kernel_rfl
theorem aw2_prog : parseL aw2 = ⟨[⟨40, 0, 0, 12⟩, ⟨22, 0, 0, 0⟩], 0, 0⟩ := by kernel_rfl
theorem aw3_text : lineL ⟨22, 0, 0, 0⟩ = [114, 101, 116, 32, 97] := by kernel_rfl
theorem max_later {w W : World} {m : Int} (hm : w.cell? ⟨0, 0, none⟩ = some (.int .i64 m)) (hB : Below w.heap.size w W) : W.cell? ⟨0, 0, none⟩ = some (.int .i64 m) :=
  (hB.cell (p := ⟨0, 0, none⟩) (World.block_lt_of_cell? w _ hm)).trans hm
set_option maxRecDepth 100000 in
set_option maxHeartbeats 1600000 in
theorem awake_any (m : Int) (w : World) (hm : w.cell? ⟨0, 0, none⟩ = some (.int .i64 m)) (ht : Tab10 w) : Calls Tryd.prog 11 #[] w fun e w' => e = .returned (.bool true) ∧ Below w.heap.size w w' := by
  have hb0 : Below w.heap.size w (w.alloc (.cells #[.int .u16 7, .int .u8 0, .int .u8 0, .int .u32 0, .int .u16 6, .int .u8 0, .int .u8 0, .int .u32 7] 25)) := (Below.refl _ w).alloc (Nat.le_refl _) _
  have c1 := print_any (some ⟨w.heap.size, 0, none⟩) 2 aw1 (w.alloc (.cells #[.int .u16 7, .int .u8 0, .int .u8 0, .int .u32 0, .int .u16 6, .int .u8 0, .int .u8 0, .int .u32 7] 25)) (rs_new (l := aw1)) (by
    intro i hi
    simp [aw1] at hi
    rcases hi with rfl | rfl
    · exact ⟨by decide, by decide, by decide, by decide⟩
    · exact ⟨by decide, by decide, by decide, by decide⟩) (ht.later hb0) (by decide)
  rw [aw1_text, aw1_err] at c1
  have C1 := Lib.hid c1
  have HT := Lib.hid ht
  have Hm := Lib.hid hm
  have HB0 := Lib.hid hb0
  clear c1 ht hm hb0
  go_enter Tryd.func11, Tryd.ntmps11
  go_wp2_with fail
  refine C1.out.mono ?_
  rintro e w1 ⟨rfl, hB1⟩
  have hB1 := HB0.out.trans (hB1.mono HB0.out.size)
  have c2 := parse_any (bs aw2) m w1 (by decide) (max_later Hm.out hB1) (HT.out.later hB1)
  rw [bs_list, aw2_prog] at c2
  have C2 := Lib.hid c2
  have HB1 := Lib.hid hB1
  clear c2 hB1
  go_wp2_with fail
  refine C2.out.mono ?_
  rintro e w2 ⟨v, rfl, hown, hB2⟩
  obtain ⟨g, cap, rfl, hg0, hgl, hcap⟩ := hown.form (by decide)
  have hRs := hown.is encN_ok
  obtain ⟨a0, a1, a2, a3⟩ := insn_cells hRs (i := 0) rfl
  obtain ⟨b0, b1, b2, b3⟩ := insn_cells hRs (i := 1) rfl
  have hB2' := HB1.out.trans (hB2.mono HB1.out.size)
  have HB2 := Lib.hid hB2'
  have c3 := line_any ⟨22, 0, 0, 0⟩ w2 ⟨by decide, by decide, by decide, by decide⟩ (HT.out.later hB2')
  rw [aw3_text] at c3
  have C3 := Lib.hid c3
  have t2 : ((bs [114, 101, 116, 32, 97]).toList == [114, 101, 116, 32, 97]) = true := by rw [ByteArray.toList_eq, bs_list]; decide
  have t3 : ((bs [116, 97, 120, 10, 114, 101, 116, 32, 35, 55, 10]).toList == [116, 97, 120, 10, 114, 101, 116, 32, 35, 55, 10]) = true := by rw [ByteArray.toList_eq, bs_list]; decide
  have t1 : inB 40 0 0 12 40 0 0 12 = true := by decide
  clear hown hRs hB2 hB2' c3 hg0
  simp only [Nat.zero_add, Nat.one_mul, Nat.reduceMul, Nat.reduceAdd] at a0 a1 a2 a3 b0 b1 b2 b3
  go_wp2_with fail
  refine C3.out.mono ?_
  rintro e w3 ⟨rfl, hB3⟩
  have HB3 := Lib.hid (HB2.out.trans (hB3.mono HB2.out.size))
  clear hB3
  go_wp2_with fail
  go_ret
  exact ⟨rfl, HB3.out⟩
end Go.Proofs.YtckbcmoanadckaaDoor
