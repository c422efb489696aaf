/- TypesNumbers: the walk. -/
import Derived.Test.YtedhlofmkehfkaaNum
import Derived.Test.YtedhlofmkehfkaaAwake
import Derived.Test.YtedhlofmkehfkaaApp
import Derived.Deep.CutBlock
import Derived.Deep.DeepCutAuto
namespace Go.Proofs.Ytedhlofmkehfkaa
open Go.RowKit Go.Shelf
set_option linter.unusedVariables false
set_option linter.unusedSimpArgs false

theorem ops_ok (a b k : Int) (ha : isU32 a) (hb : isU32 b) : NodesOk (opsL a b k) := nodesOk_of (by
  intro n hn
  simp only [opsL, List.mem_cons, List.not_mem_nil, or_false] at hn
  rcases hn with rfl | rfl | rfl
  · exact ⟨rfl, ha⟩
  · exact ⟨rfl, hb⟩
  · exact ⟨rfl, show isU32 0 from ⟨by decide, by decide⟩⟩) (by simp [opsL])
theorem len_ok : NodesOk [Node.k0 2] := nodesOk_of (by simp [Node.k0, Node.zero, isU32]) (by simp)
theorem minus_ok (a b k : Int) (ha : isU32 a) (hb : isU32 b) : NodesOk (opsL a b k ++ [Node.k0 5]) := nodesOk_of (by
  intro n hn
  simp only [opsL, List.cons_append, List.nil_append, List.mem_cons, List.not_mem_nil, or_false] at hn
  rcases hn with rfl | rfl | rfl | rfl
  · exact ⟨rfl, ha⟩
  · exact ⟨rfl, hb⟩
  · exact ⟨rfl, show isU32 0 from ⟨by decide, by decide⟩⟩
  · exact ⟨rfl, show isU32 0 from ⟨by decide, by decide⟩⟩) (by simp [opsL])
theorem rel_ok (a b k : Int) (ha : isU32 a) (hb : isU32 b) : NodesOk ([Node.k0 2] ++ opsL a b k ++ [Node.ko 6 2]) := nodesOk_of (by
  intro n hn
  simp only [opsL, List.cons_append, List.nil_append, List.mem_cons, List.not_mem_nil, or_false] at hn
  rcases hn with rfl | rfl | rfl | rfl | rfl
  · exact ⟨rfl, show isU32 0 from ⟨by decide, by decide⟩⟩
  · exact ⟨rfl, ha⟩
  · exact ⟨rfl, hb⟩
  · exact ⟨rfl, show isU32 0 from ⟨by decide, by decide⟩⟩
  · exact ⟨rfl, show isU32 0 from ⟨by decide, by decide⟩⟩) (by simp [opsL])
theorem ns_new2 {w : World} {l : List Node} {o : Obj} : Ns ((w.alloc o).alloc (.cells (flat l).toArray 40)) (some ⟨w.heap.size + 1, 0, none⟩) l := by
  have := ns_new (w := w.alloc o) (l := l)
  simpa using this
theorem ten {k : Int} (h1 : 1 ≤ k) (h2 : k ≤ 10) : k = 1 ∨ k = 2 ∨ k = 3 ∨ k = 4 ∨ k = 5 ∨ k = 6 ∨ k = 7 ∨ k = 8 ∨ k = 9 ∨ k = 10 := by omega
theorem want_at {w : World} {b k r : Int} {C : Array Value} {t : TypeId} {o : Obj} (hC : ¬ zeroOp k b → C[k.toNat]? = some (.int .u32 r)) (hz : ¬ zeroOp k b) : ((w.alloc (.cells C t)).alloc o).cell? ⟨w.heap.size, k.toNat, none⟩ = some (.int .u32 r) := by
  have hh : ((w.alloc (.cells C t)).alloc o).heap[w.heap.size]? = some (.cells C t (0, 0)) := by
    rw [Below.heap_alloc _ _ _ (by simp)]
    exact heap_alloc_new w _
  rw [cell_of_row _ _ _ _ _ _ hh]
  exact hC hz
theorem want0 {a k : Int} (h1 : 1 ≤ k) (h2 : k ≤ 10) (ha0 : 0 ≤ a) (ha1 : a ≤ 4294967295) (hz : ¬ zeroOp k 0) :
    (#[.int .u32 0, .int .u32 a, .int .u32 a, .int .u32 0, .int .u32 0, .int .u32 0, .int .u32 (bits .and .u32 a 0), .int .u32 (bits .or .u32 a 0), .int .u32 (bits .xor .u32 a 0), .int .u32 a, .int .u32 a] : Array Value)[k.toNat]? = some (.int .u32 (reckon k a 0)) := by
  have e : a % 4294967296 = a := Int.emod_eq_of_lt ha0 (by omega)
  rcases ten h1 h2 with rfl | rfl | rfl | rfl | rfl | rfl | rfl | rfl | rfl | rfl
  case inr.inr.inr.inl => exact absurd ⟨.inl rfl, rfl⟩ hz
  case inr.inr.inr.inr.inl => exact absurd ⟨.inr rfl, rfl⟩ hz
  all_goals simp [reckon, e]
theorem want1 {a b k : Int} (h1 : 1 ≤ k) (h2 : k ≤ 10) (hb : 1 ≤ b) (h32 : b < 32) :
    (#[.int .u32 0, .int .u32 ((a + b) % 4294967296), .int .u32 ((a - b) % 4294967296), .int .u32 (a * b % 4294967296), .int .u32 (a / b), .int .u32 (a % b), .int .u32 (bits .and .u32 a b), .int .u32 (bits .or .u32 a b), .int .u32 (bits .xor .u32 a b), .int .u32 (a * 2 ^ b.toNat % 4294967296), .int .u32 (a / 2 ^ b.toNat)] : Array Value)[k.toNat]? = some (.int .u32 (reckon k a b)) := by
  have e : min b.toNat 32 = b.toNat := by omega
  rcases ten h1 h2 with rfl | rfl | rfl | rfl | rfl | rfl | rfl | rfl | rfl | rfl
  all_goals simp [reckon, e]
theorem want2 {a b k : Int} (h1 : 1 ≤ k) (h2 : k ≤ 10) (ha0 : 0 ≤ a) (ha1 : a ≤ 4294967295) (h32 : 32 ≤ b) :
    (#[.int .u32 0, .int .u32 ((a + b) % 4294967296), .int .u32 ((a - b) % 4294967296), .int .u32 (a * b % 4294967296), .int .u32 (a / b), .int .u32 (a % b), .int .u32 (bits .and .u32 a b), .int .u32 (bits .or .u32 a b), .int .u32 (bits .xor .u32 a b), .int .u32 0, .int .u32 0] : Array Value)[k.toNat]? = some (.int .u32 (reckon k a b)) := by
  have e : min b.toNat 32 = 32 := by omega
  have e2 : a * 4294967296 % 4294967296 = 0 := by omega
  have e3 : a / 4294967296 = 0 := by omega
  rcases ten h1 h2 with rfl | rfl | rfl | rfl | rfl | rfl | rfl | rfl | rfl | rfl
  all_goals simp [reckon, e, e2, e3]
set_option maxRecDepth 100000 in
set_option maxHeartbeats 3200000 in
theorem numbers_any (a b op : Int) (ha : isU32 a) (hb : isU32 b) (w : World) : Calls Try.prog 8 #[.int .u32 a, .int .u32 b, .int .i64 op] w fun e w' => e = .returned (.bool true) ∧ Below w.heap.size w w' := by
  obtain ⟨x, hx⟩ : ∃ x, Go.bits .and .i64 op 9223372036854775807 = x := ⟨_, rfl⟩
  have hx0 := low_nonneg op
  have Hlow := low_any op
  rw [hx] at hx0 Hlow
  have HL := Lib.hid Hlow
  clear Hlow hx
  have ha2 := ha
  have hb2 := hb
  obtain ⟨ha0, ha1⟩ := ha2
  obtain ⟨hb0, hb1⟩ := hb2
  have HA := Lib.hid ha
  have HB := Lib.hid hb
  clear ha hb
  by_cases hz : b = 0
  · subst hz
    go_enter Try.func8, Try.ntmps8
    go_wp2_with fail
    refine (HL.out _).mono ?_
    rintro e w1 ⟨rfl, rfl⟩
    go_upto_region 10 with fail
    go_cut [7, 10, 11] (fun s7 s10 s11 W => ∃ k : Int, s7 = .int .i64 k ∧ 1 ≤ k ∧ k ≤ 10 ∧ s10 = .slice (some ⟨w.heap.size, 0, none⟩) 11 11 ∧ s11 = .slice (some ⟨w.heap.size + 1, 0, none⟩) 3 3 ∧ Ns W (some ⟨w.heap.size + 1, 0, none⟩) (opsL a 0 k) ∧ (¬ zeroOp k 0 → W.cell? ⟨w.heap.size, k.toNat, none⟩ = some (.int .u32 (reckon k a 0))) ∧ Below w.heap.size w W ∧ W.heap.size = w.heap.size + 2)
    case first =>
      go_wp2_with fail
      go_meet
      refine ⟨_, rfl, by omega, by omega, rfl, rfl, ?_, want_at (want0 (by omega) (by omega) ha0 ha1), ((Below.refl _ w).alloc (Nat.le_refl _) _).alloc (by simp) _, by simp⟩
      exact ns_new2 (l := opsL a 0 (1 + x % 10))
    case rest =>
      obtain ⟨k, rfl, hk1, hk2, rfl, rfl, hNs, hWant, hBel, hSz⟩ := hcut
      have HN := Lib.hid hNs
      have HW := Lib.hid hWant
      have HBel := Lib.hid hBel
      have HSz := Lib.hid hSz
      have Hok := Lib.hid (ops_ok a 0 k HA.out HB.out)
      have Hmok := Lib.hid (minus_ok a 0 k HA.out HB.out)
      have Hrok := Lib.hid (rel_ok a 0 k HA.out HB.out)
      clear hNs hWant hBel hSz
      go_wp2_with fail
      refine (copy_any (some ⟨w.heap.size + 1, 0, none⟩) 3 (opsL a 0 k) _ HN.out (by simp [opsL]) (by simp)).mono ?_
      rintro e w2 ⟨g, c2, rfl, hown, hB2⟩
      have HB2 := Lib.hid hB2
      have HO2 := Lib.hid hown.is
      clear hown hB2
      go_wp2_with fail
      have c1 := const_any (some ⟨g, 0, none⟩) c2 (opsL a 0 k) w2 HO2.out Hok.out
      obtain ⟨cv, hcv⟩ : ∃ x, constT (opsL a 0 k) = x := ⟨_, rfl⟩
      rw [hcv] at c1
      obtain ⟨cv, cb⟩ := cv
      have Hcv := Lib.hid hcv
      refine c1.mono ?_
      rintro e w3 ⟨rfl, hB3⟩
      have HT := Lib.hid (((HN.out.later HB2.out).later hB3).later ((Below.refl _ _).alloc (Nat.le_refl _) (.cells (flat [Node.k0 2]).toArray 40)))
      have HT3 := Lib.hid ((HN.out.later HB2.out).later hB3)
      have HB3 := Lib.hid ((HB2.out.trans (hB3.mono HB2.out.size)))
      have HBW := Lib.hid (HBel.out.trans (HB3.out.mono HBel.out.size))
      have HW2 := Lib.hid (fun hz : ¬ zeroOp k 0 => (HB3.out.cell (World.block_lt_of_cell? _ _ (HW.out hz))).trans (HW.out hz))
      clear c1 hB3 hcv HB3 HB2 HBel HO2
      go_upto_region 12 with fail
      go_cut [14] (fun s14 W => s14 = .bool (decide (zeroOp k 0)) ∧ W = w3)
      case first =>
        by_cases h4 : k = 4
        · subst h4
          go_wp2_with fail
          go_meet
          exact ⟨rfl, rfl⟩
        by_cases h5 : k = 5
        · subst h5
          go_wp2_with fail
          go_meet
          exact ⟨rfl, rfl⟩
        have h4' : (k == 4) = false := by simpa using h4
        have h5' : (k == 5) = false := by simpa using h5
        have hzd : decide (zeroOp k 0) = false := decide_eq_false fun h => h.1.elim h4 h5
        clear h4 h5
        go_wp2_with fail
        go_meet
        exact ⟨by rw [hzd], rfl⟩
      case rest =>
        obtain ⟨rfl, rfl⟩ := hcut
        go_upto_region 14 with (at_builtin; refine wpList_app rfl _ _ rfl wc.heap.size [Node.k0 2] (opsL a 0 k) wc.heap.size 1 1 rfl rfl (own_new wc [Node.k0 2] (by simp)) _ 3 3 rfl rfl HT.out (by simp) (by simp [opsL]) (by simp) ?_; intro g3 cap3 w4 hown3 hB4 hgr hlt)
        have hB5 : Below wc.heap.size wc w4 := ((Below.refl _ wc).alloc (Nat.le_refl _) _).trans (hB4.mono (Nat.le_refl _))
        have HO3 := Lib.hid (own_later hown3 (W := w4.alloc (.cells (flat [Node.ko 6 2]).toArray 40)) fun b hb => Below.heap_alloc _ _ _ (own_lt hown3 hb).2)
        have HS4 := Lib.hid (show wc.heap.size ≤ (w4.alloc (.cells (flat [Node.ko 6 2]).toArray 40)).heap.size by have := hB5.size; simp; omega)
        have HB5 := Lib.hid hB5
        clear hown3 hB4 hgr hlt hB5
        go_upto_region 15 with (at_builtin; refine wpList_app rfl _ _ rfl wc.heap.size ([Node.k0 2] ++ opsL a 0 k) [Node.ko 6 2] g3 4 cap3 rfl (by simp [opsL]) HO3.out _ 1 1 rfl rfl ns_new (by simp) (by simp [opsL]) HS4.out ?_; intro g4 cap4 w5 hown4 hB6 hgr4 hlt4)
        have HO4 := Lib.hid hown4.is
        have HB6 := Lib.hid ((HB5.out.alloc HB5.out.size _).trans hB6)
        clear hown4 hB6 hgr4 hlt4 HO3 HS4 HB5
        go_wp2_with fail
        have c3 := check_any (some ⟨g4, 0, none⟩) cap4 ([Node.k0 2] ++ opsL a 0 k ++ [Node.ko 6 2]) w5 HO4.out Hrok.out
        obtain ⟨ev, hev⟩ : ∃ x, checkT ([Node.k0 2] ++ opsL a 0 k ++ [Node.ko 6 2]) = x := ⟨_, rfl⟩
        rw [hev] at c3
        obtain ⟨at_, er⟩ := ev
        have hk0 : checkT ([Node.k0 2] ++ opsL a 0 k ++ [Node.ko 6 2]) = _ := check_ops a 0 k ⟨hk1, hk2⟩
        rw [hev] at hk0
        have hc0 := Hcv.out
        rw [const_ops a 0 k ⟨hk1, hk2⟩] at hc0
        refine c3.mono ?_
        rintro e w6 ⟨rfl, hB7⟩
        have HB7 := Lib.hid (HB6.out.trans (hB7.mono HB6.out.size))
        clear c3 hB7 hev HB6
        by_cases hzo : zeroOp k 0
        · rw [if_pos hzo] at hk0 hc0
          cases hk0
          cases hc0
          have hd : decide (zeroOp k 0) = true := decide_eq_true hzo
          rw [hd]
          clear hd hzo
          go_wp2_with fail
          refine (awake_any _).mono ?_
          rintro e w7 ⟨rfl, hB8⟩
          have HB8 := Lib.hid (HBW.out.trans ((HB7.out.trans (hB8.mono HB7.out.size)).mono HBW.out.size))
          clear hB8
          go_wp2_with fail
          go_ret
          exact ⟨rfl, HB8.out⟩
        · rw [if_neg hzo] at hk0 hc0
          cases hk0
          cases hc0
          have hd : decide (zeroOp k 0) = false := decide_eq_false hzo
          rw [hd]
          have hwant := HW2.out hzo
          have Hwant := Lib.hid hwant
          have Hzo := Lib.hid hzo
          have HT7 := Lib.hid (HT3.out.later (w := wc) ((HB7.out)))
          clear hd hzo hwant
          go_wp2_with fail
          refine (copy_any (some ⟨w.heap.size + 1, 0, none⟩) 3 (opsL a 0 k) _ HT7.out (by simp [opsL]) (by simp)).mono ?_
          rintro e w8 ⟨g8, c8, rfl, hown8, hB8⟩
          have HO8 := Lib.hid (own_later hown8 (W := w8.alloc (.cells (flat [Node.k0 5]).toArray 40)) fun b hb => Below.heap_alloc _ _ _ (own_lt hown8 hb).2)
          have HS8 := Lib.hid (show w6.heap.size ≤ (w8.alloc (.cells (flat [Node.k0 5]).toArray 40)).heap.size by have := hB8.size; simp; omega)
          have HB8 := Lib.hid hB8
          clear hown8 hB8
          go_wp2_with (at_builtin; refine wpList_app rfl _ _ rfl w6.heap.size (opsL a 0 k) [Node.k0 5] g8 3 c8 rfl (by simp [opsL]) HO8.out _ 1 1 rfl rfl ns_new (by simp) (by simp [opsL]) HS8.out ?_; intro g9 cap9 w9 hown9 hB9 hgr9 hlt9)
          have c4 := const_any (some ⟨g9, 0, none⟩) cap9 (opsL a 0 k ++ [Node.k0 5]) w9 hown9.is Hmok.out
          rw [const_minus a 0 k ⟨hk1, hk2⟩ Hzo.out] at c4
          refine c4.mono ?_
          rintro e w10 ⟨rfl, hB10⟩
          have hB11 : Below w6.heap.size w6 w10 := ((HB8.out.alloc HB8.out.size _).trans hB9).trans (hB10.mono (((HB8.out.alloc HB8.out.size _).trans hB9)).size)
          have HB11 := Lib.hid (HB7.out.trans (hB11.mono HB7.out.size))
          clear hown9 hB9 hgr9 hlt9 hB10 hB11 HO8 HS8 HB8 c4
          go_wp2_with fail
          have c5 := const_any (some ⟨w10.heap.size, 0, none⟩) 1 [Node.k0 2] _ (ns_new (w := w10)) len_ok
          rw [const_len] at c5
          refine c5.mono ?_
          rintro e w11 ⟨rfl, hB12⟩
          have HB12 := Lib.hid ((HB11.out.alloc HB11.out.size _).trans (hB12.mono (HB11.out.alloc HB11.out.size _).size))
          have hcell := (HB12.out.cell (World.block_lt_of_cell? _ _ Hwant.out)).trans Hwant.out
          clear c5 hB12 HB11
          go_wp2_with fail
          refine (awake_any _).mono ?_
          rintro e w13 ⟨rfl, hB13⟩
          have HB13 := Lib.hid (HBW.out.trans ((HB12.out.trans (hB13.mono HB12.out.size)).mono HBW.out.size))
          clear hB13
          go_wp2_with fail
          go_ret
          exact ⟨rfl, HB13.out⟩
  have hbp : 1 ≤ b := by omega
  by_cases h32 : b < 32
  · go_enter Try.func8, Try.ntmps8
    go_wp2_with fail
    refine (HL.out _).mono ?_
    rintro e w1 ⟨rfl, rfl⟩
    go_upto_region 10 with fail
    go_cut [7, 10, 11] (fun s7 s10 s11 W => ∃ k : Int, s7 = .int .i64 k ∧ 1 ≤ k ∧ k ≤ 10 ∧ s10 = .slice (some ⟨w.heap.size, 0, none⟩) 11 11 ∧ s11 = .slice (some ⟨w.heap.size + 1, 0, none⟩) 3 3 ∧ Ns W (some ⟨w.heap.size + 1, 0, none⟩) (opsL a b k) ∧ (¬ zeroOp k b → W.cell? ⟨w.heap.size, k.toNat, none⟩ = some (.int .u32 (reckon k a b))) ∧ Below w.heap.size w W ∧ W.heap.size = w.heap.size + 2)
    case first =>
      go_wp2_with fail
      go_meet
      refine ⟨_, rfl, by omega, by omega, rfl, rfl, ?_, want_at (fun _ => want1 (by omega) (by omega) hbp h32), ((Below.refl _ w).alloc (Nat.le_refl _) _).alloc (by simp) _, by simp⟩
      exact ns_new2 (l := opsL a b (1 + x % 10))
    case rest =>
      obtain ⟨k, rfl, hk1, hk2, rfl, rfl, hNs, hWant, hBel, hSz⟩ := hcut
      have HN := Lib.hid hNs
      have HW := Lib.hid hWant
      have HBel := Lib.hid hBel
      have HSz := Lib.hid hSz
      have Hok := Lib.hid (ops_ok a b k HA.out HB.out)
      have Hmok := Lib.hid (minus_ok a b k HA.out HB.out)
      have Hrok := Lib.hid (rel_ok a b k HA.out HB.out)
      clear hNs hWant hBel hSz
      go_wp2_with fail
      refine (copy_any (some ⟨w.heap.size + 1, 0, none⟩) 3 (opsL a b k) _ HN.out (by simp [opsL]) (by simp)).mono ?_
      rintro e w2 ⟨g, c2, rfl, hown, hB2⟩
      have HB2 := Lib.hid hB2
      have HO2 := Lib.hid hown.is
      clear hown hB2
      go_wp2_with fail
      have c1 := const_any (some ⟨g, 0, none⟩) c2 (opsL a b k) w2 HO2.out Hok.out
      obtain ⟨cv, hcv⟩ : ∃ x, constT (opsL a b k) = x := ⟨_, rfl⟩
      rw [hcv] at c1
      obtain ⟨cv, cb⟩ := cv
      have Hcv := Lib.hid hcv
      refine c1.mono ?_
      rintro e w3 ⟨rfl, hB3⟩
      have HT := Lib.hid (((HN.out.later HB2.out).later hB3).later ((Below.refl _ _).alloc (Nat.le_refl _) (.cells (flat [Node.k0 2]).toArray 40)))
      have HT3 := Lib.hid ((HN.out.later HB2.out).later hB3)
      have HB3 := Lib.hid ((HB2.out.trans (hB3.mono HB2.out.size)))
      have HBW := Lib.hid (HBel.out.trans (HB3.out.mono HBel.out.size))
      have HW2 := Lib.hid (fun hz : ¬ zeroOp k b => (HB3.out.cell (World.block_lt_of_cell? _ _ (HW.out hz))).trans (HW.out hz))
      clear c1 hB3 hcv HB3 HB2 HBel HO2
      go_upto_region 12 with fail
      go_cut [14] (fun s14 W => s14 = .bool (decide (zeroOp k b)) ∧ W = w3)
      case first =>
        have hzd : decide (zeroOp k b) = false := decide_eq_false fun h => hz h.2
        have hb' : (b == 0) = false := by simpa using hz
        go_wp2_with fail
        go_meet
        exact ⟨by rw [hzd], rfl⟩
      case rest =>
        obtain ⟨rfl, rfl⟩ := hcut
        go_upto_region 14 with (at_builtin; refine wpList_app rfl _ _ rfl wc.heap.size [Node.k0 2] (opsL a b k) wc.heap.size 1 1 rfl rfl (own_new wc [Node.k0 2] (by simp)) _ 3 3 rfl rfl HT.out (by simp) (by simp [opsL]) (by simp) ?_; intro g3 cap3 w4 hown3 hB4 hgr hlt)
        have hB5 : Below wc.heap.size wc w4 := ((Below.refl _ wc).alloc (Nat.le_refl _) _).trans (hB4.mono (Nat.le_refl _))
        have HO3 := Lib.hid (own_later hown3 (W := w4.alloc (.cells (flat [Node.ko 6 2]).toArray 40)) fun b hb => Below.heap_alloc _ _ _ (own_lt hown3 hb).2)
        have HS4 := Lib.hid (show wc.heap.size ≤ (w4.alloc (.cells (flat [Node.ko 6 2]).toArray 40)).heap.size by have := hB5.size; simp; omega)
        have HB5 := Lib.hid hB5
        clear hown3 hB4 hgr hlt hB5
        go_upto_region 15 with (at_builtin; refine wpList_app rfl _ _ rfl wc.heap.size ([Node.k0 2] ++ opsL a b k) [Node.ko 6 2] g3 4 cap3 rfl (by simp [opsL]) HO3.out _ 1 1 rfl rfl ns_new (by simp) (by simp [opsL]) HS4.out ?_; intro g4 cap4 w5 hown4 hB6 hgr4 hlt4)
        have HO4 := Lib.hid hown4.is
        have HB6 := Lib.hid ((HB5.out.alloc HB5.out.size _).trans hB6)
        clear hown4 hB6 hgr4 hlt4 HO3 HS4 HB5
        go_wp2_with fail
        have c3 := check_any (some ⟨g4, 0, none⟩) cap4 ([Node.k0 2] ++ opsL a b k ++ [Node.ko 6 2]) w5 HO4.out Hrok.out
        obtain ⟨ev, hev⟩ : ∃ x, checkT ([Node.k0 2] ++ opsL a b k ++ [Node.ko 6 2]) = x := ⟨_, rfl⟩
        rw [hev] at c3
        obtain ⟨at_, er⟩ := ev
        have hk0 : checkT ([Node.k0 2] ++ opsL a b k ++ [Node.ko 6 2]) = _ := check_ops a b k ⟨hk1, hk2⟩
        rw [hev] at hk0
        have hc0 := Hcv.out
        rw [const_ops a b k ⟨hk1, hk2⟩] at hc0
        refine c3.mono ?_
        rintro e w6 ⟨rfl, hB7⟩
        have HB7 := Lib.hid (HB6.out.trans (hB7.mono HB6.out.size))
        clear c3 hB7 hev HB6
        by_cases hzo : zeroOp k b
        · rw [if_pos hzo] at hk0 hc0
          cases hk0
          cases hc0
          have hd : decide (zeroOp k b) = true := decide_eq_true hzo
          rw [hd]
          clear hd hzo
          go_wp2_with fail
          refine (awake_any _).mono ?_
          rintro e w7 ⟨rfl, hB8⟩
          have HB8 := Lib.hid (HBW.out.trans ((HB7.out.trans (hB8.mono HB7.out.size)).mono HBW.out.size))
          clear hB8
          go_wp2_with fail
          go_ret
          exact ⟨rfl, HB8.out⟩
        · rw [if_neg hzo] at hk0 hc0
          cases hk0
          cases hc0
          have hd : decide (zeroOp k b) = false := decide_eq_false hzo
          rw [hd]
          have hwant := HW2.out hzo
          have Hwant := Lib.hid hwant
          have Hzo := Lib.hid hzo
          have HT7 := Lib.hid (HT3.out.later (w := wc) ((HB7.out)))
          clear hd hzo hwant
          go_wp2_with fail
          refine (copy_any (some ⟨w.heap.size + 1, 0, none⟩) 3 (opsL a b k) _ HT7.out (by simp [opsL]) (by simp)).mono ?_
          rintro e w8 ⟨g8, c8, rfl, hown8, hB8⟩
          have HO8 := Lib.hid (own_later hown8 (W := w8.alloc (.cells (flat [Node.k0 5]).toArray 40)) fun b hb => Below.heap_alloc _ _ _ (own_lt hown8 hb).2)
          have HS8 := Lib.hid (show w6.heap.size ≤ (w8.alloc (.cells (flat [Node.k0 5]).toArray 40)).heap.size by have := hB8.size; simp; omega)
          have HB8 := Lib.hid hB8
          clear hown8 hB8
          go_wp2_with (at_builtin; refine wpList_app rfl _ _ rfl w6.heap.size (opsL a b k) [Node.k0 5] g8 3 c8 rfl (by simp [opsL]) HO8.out _ 1 1 rfl rfl ns_new (by simp) (by simp [opsL]) HS8.out ?_; intro g9 cap9 w9 hown9 hB9 hgr9 hlt9)
          have c4 := const_any (some ⟨g9, 0, none⟩) cap9 (opsL a b k ++ [Node.k0 5]) w9 hown9.is Hmok.out
          rw [const_minus a b k ⟨hk1, hk2⟩ Hzo.out] at c4
          refine c4.mono ?_
          rintro e w10 ⟨rfl, hB10⟩
          have hB11 : Below w6.heap.size w6 w10 := ((HB8.out.alloc HB8.out.size _).trans hB9).trans (hB10.mono (((HB8.out.alloc HB8.out.size _).trans hB9)).size)
          have HB11 := Lib.hid (HB7.out.trans (hB11.mono HB7.out.size))
          clear hown9 hB9 hgr9 hlt9 hB10 hB11 HO8 HS8 HB8 c4
          go_wp2_with fail
          have c5 := const_any (some ⟨w10.heap.size, 0, none⟩) 1 [Node.k0 2] _ (ns_new (w := w10)) len_ok
          rw [const_len] at c5
          refine c5.mono ?_
          rintro e w11 ⟨rfl, hB12⟩
          have HB12 := Lib.hid ((HB11.out.alloc HB11.out.size _).trans (hB12.mono (HB11.out.alloc HB11.out.size _).size))
          have hcell := (HB12.out.cell (World.block_lt_of_cell? _ _ Hwant.out)).trans Hwant.out
          clear c5 hB12 HB11
          go_wp2_with fail
          refine (awake_any _).mono ?_
          rintro e w13 ⟨rfl, hB13⟩
          have HB13 := Lib.hid (HBW.out.trans ((HB12.out.trans (hB13.mono HB12.out.size)).mono HBW.out.size))
          clear hB13
          go_wp2_with fail
          go_ret
          exact ⟨rfl, HB13.out⟩
  · have h33 : 32 ≤ b := by omega
    go_enter Try.func8, Try.ntmps8
    go_wp2_with fail
    refine (HL.out _).mono ?_
    rintro e w1 ⟨rfl, rfl⟩
    go_upto_region 10 with fail
    go_cut [7, 10, 11] (fun s7 s10 s11 W => ∃ k : Int, s7 = .int .i64 k ∧ 1 ≤ k ∧ k ≤ 10 ∧ s10 = .slice (some ⟨w.heap.size, 0, none⟩) 11 11 ∧ s11 = .slice (some ⟨w.heap.size + 1, 0, none⟩) 3 3 ∧ Ns W (some ⟨w.heap.size + 1, 0, none⟩) (opsL a b k) ∧ (¬ zeroOp k b → W.cell? ⟨w.heap.size, k.toNat, none⟩ = some (.int .u32 (reckon k a b))) ∧ Below w.heap.size w W ∧ W.heap.size = w.heap.size + 2)
    case first =>
      go_wp2_with fail
      go_meet
      refine ⟨_, rfl, by omega, by omega, rfl, rfl, ?_, want_at (fun _ => want2 (by omega) (by omega) ha0 ha1 h33), ((Below.refl _ w).alloc (Nat.le_refl _) _).alloc (by simp) _, by simp⟩
      exact ns_new2 (l := opsL a b (1 + x % 10))
    case rest =>
      obtain ⟨k, rfl, hk1, hk2, rfl, rfl, hNs, hWant, hBel, hSz⟩ := hcut
      have HN := Lib.hid hNs
      have HW := Lib.hid hWant
      have HBel := Lib.hid hBel
      have HSz := Lib.hid hSz
      have Hok := Lib.hid (ops_ok a b k HA.out HB.out)
      have Hmok := Lib.hid (minus_ok a b k HA.out HB.out)
      have Hrok := Lib.hid (rel_ok a b k HA.out HB.out)
      clear hNs hWant hBel hSz
      go_wp2_with fail
      refine (copy_any (some ⟨w.heap.size + 1, 0, none⟩) 3 (opsL a b k) _ HN.out (by simp [opsL]) (by simp)).mono ?_
      rintro e w2 ⟨g, c2, rfl, hown, hB2⟩
      have HB2 := Lib.hid hB2
      have HO2 := Lib.hid hown.is
      clear hown hB2
      go_wp2_with fail
      have c1 := const_any (some ⟨g, 0, none⟩) c2 (opsL a b k) w2 HO2.out Hok.out
      obtain ⟨cv, hcv⟩ : ∃ x, constT (opsL a b k) = x := ⟨_, rfl⟩
      rw [hcv] at c1
      obtain ⟨cv, cb⟩ := cv
      have Hcv := Lib.hid hcv
      refine c1.mono ?_
      rintro e w3 ⟨rfl, hB3⟩
      have HT := Lib.hid (((HN.out.later HB2.out).later hB3).later ((Below.refl _ _).alloc (Nat.le_refl _) (.cells (flat [Node.k0 2]).toArray 40)))
      have HT3 := Lib.hid ((HN.out.later HB2.out).later hB3)
      have HB3 := Lib.hid ((HB2.out.trans (hB3.mono HB2.out.size)))
      have HBW := Lib.hid (HBel.out.trans (HB3.out.mono HBel.out.size))
      have HW2 := Lib.hid (fun hz : ¬ zeroOp k b => (HB3.out.cell (World.block_lt_of_cell? _ _ (HW.out hz))).trans (HW.out hz))
      clear c1 hB3 hcv HB3 HB2 HBel HO2
      go_upto_region 12 with fail
      go_cut [14] (fun s14 W => s14 = .bool (decide (zeroOp k b)) ∧ W = w3)
      case first =>
        have hzd : decide (zeroOp k b) = false := decide_eq_false fun h => hz h.2
        have hb' : (b == 0) = false := by simpa using hz
        go_wp2_with fail
        go_meet
        exact ⟨by rw [hzd], rfl⟩
      case rest =>
        obtain ⟨rfl, rfl⟩ := hcut
        go_upto_region 14 with (at_builtin; refine wpList_app rfl _ _ rfl wc.heap.size [Node.k0 2] (opsL a b k) wc.heap.size 1 1 rfl rfl (own_new wc [Node.k0 2] (by simp)) _ 3 3 rfl rfl HT.out (by simp) (by simp [opsL]) (by simp) ?_; intro g3 cap3 w4 hown3 hB4 hgr hlt)
        have hB5 : Below wc.heap.size wc w4 := ((Below.refl _ wc).alloc (Nat.le_refl _) _).trans (hB4.mono (Nat.le_refl _))
        have HO3 := Lib.hid (own_later hown3 (W := w4.alloc (.cells (flat [Node.ko 6 2]).toArray 40)) fun b hb => Below.heap_alloc _ _ _ (own_lt hown3 hb).2)
        have HS4 := Lib.hid (show wc.heap.size ≤ (w4.alloc (.cells (flat [Node.ko 6 2]).toArray 40)).heap.size by have := hB5.size; simp; omega)
        have HB5 := Lib.hid hB5
        clear hown3 hB4 hgr hlt hB5
        go_upto_region 15 with (at_builtin; refine wpList_app rfl _ _ rfl wc.heap.size ([Node.k0 2] ++ opsL a b k) [Node.ko 6 2] g3 4 cap3 rfl (by simp [opsL]) HO3.out _ 1 1 rfl rfl ns_new (by simp) (by simp [opsL]) HS4.out ?_; intro g4 cap4 w5 hown4 hB6 hgr4 hlt4)
        have HO4 := Lib.hid hown4.is
        have HB6 := Lib.hid ((HB5.out.alloc HB5.out.size _).trans hB6)
        clear hown4 hB6 hgr4 hlt4 HO3 HS4 HB5
        go_wp2_with fail
        have c3 := check_any (some ⟨g4, 0, none⟩) cap4 ([Node.k0 2] ++ opsL a b k ++ [Node.ko 6 2]) w5 HO4.out Hrok.out
        obtain ⟨ev, hev⟩ : ∃ x, checkT ([Node.k0 2] ++ opsL a b k ++ [Node.ko 6 2]) = x := ⟨_, rfl⟩
        rw [hev] at c3
        obtain ⟨at_, er⟩ := ev
        have hk0 : checkT ([Node.k0 2] ++ opsL a b k ++ [Node.ko 6 2]) = _ := check_ops a b k ⟨hk1, hk2⟩
        rw [hev] at hk0
        have hc0 := Hcv.out
        rw [const_ops a b k ⟨hk1, hk2⟩] at hc0
        refine c3.mono ?_
        rintro e w6 ⟨rfl, hB7⟩
        have HB7 := Lib.hid (HB6.out.trans (hB7.mono HB6.out.size))
        clear c3 hB7 hev HB6
        by_cases hzo : zeroOp k b
        · rw [if_pos hzo] at hk0 hc0
          cases hk0
          cases hc0
          have hd : decide (zeroOp k b) = true := decide_eq_true hzo
          rw [hd]
          clear hd hzo
          go_wp2_with fail
          refine (awake_any _).mono ?_
          rintro e w7 ⟨rfl, hB8⟩
          have HB8 := Lib.hid (HBW.out.trans ((HB7.out.trans (hB8.mono HB7.out.size)).mono HBW.out.size))
          clear hB8
          go_wp2_with fail
          go_ret
          exact ⟨rfl, HB8.out⟩
        · rw [if_neg hzo] at hk0 hc0
          cases hk0
          cases hc0
          have hd : decide (zeroOp k b) = false := decide_eq_false hzo
          rw [hd]
          have hwant := HW2.out hzo
          have Hwant := Lib.hid hwant
          have Hzo := Lib.hid hzo
          have HT7 := Lib.hid (HT3.out.later (w := wc) ((HB7.out)))
          clear hd hzo hwant
          go_wp2_with fail
          refine (copy_any (some ⟨w.heap.size + 1, 0, none⟩) 3 (opsL a b k) _ HT7.out (by simp [opsL]) (by simp)).mono ?_
          rintro e w8 ⟨g8, c8, rfl, hown8, hB8⟩
          have HO8 := Lib.hid (own_later hown8 (W := w8.alloc (.cells (flat [Node.k0 5]).toArray 40)) fun b hb => Below.heap_alloc _ _ _ (own_lt hown8 hb).2)
          have HS8 := Lib.hid (show w6.heap.size ≤ (w8.alloc (.cells (flat [Node.k0 5]).toArray 40)).heap.size by have := hB8.size; simp; omega)
          have HB8 := Lib.hid hB8
          clear hown8 hB8
          go_wp2_with (at_builtin; refine wpList_app rfl _ _ rfl w6.heap.size (opsL a b k) [Node.k0 5] g8 3 c8 rfl (by simp [opsL]) HO8.out _ 1 1 rfl rfl ns_new (by simp) (by simp [opsL]) HS8.out ?_; intro g9 cap9 w9 hown9 hB9 hgr9 hlt9)
          have c4 := const_any (some ⟨g9, 0, none⟩) cap9 (opsL a b k ++ [Node.k0 5]) w9 hown9.is Hmok.out
          rw [const_minus a b k ⟨hk1, hk2⟩ Hzo.out] at c4
          refine c4.mono ?_
          rintro e w10 ⟨rfl, hB10⟩
          have hB11 : Below w6.heap.size w6 w10 := ((HB8.out.alloc HB8.out.size _).trans hB9).trans (hB10.mono (((HB8.out.alloc HB8.out.size _).trans hB9)).size)
          have HB11 := Lib.hid (HB7.out.trans (hB11.mono HB7.out.size))
          clear hown9 hB9 hgr9 hlt9 hB10 hB11 HO8 HS8 HB8 c4
          go_wp2_with fail
          have c5 := const_any (some ⟨w10.heap.size, 0, none⟩) 1 [Node.k0 2] _ (ns_new (w := w10)) len_ok
          rw [const_len] at c5
          refine c5.mono ?_
          rintro e w11 ⟨rfl, hB12⟩
          have HB12 := Lib.hid ((HB11.out.alloc HB11.out.size _).trans (hB12.mono (HB11.out.alloc HB11.out.size _).size))
          have hcell := (HB12.out.cell (World.block_lt_of_cell? _ _ Hwant.out)).trans Hwant.out
          clear c5 hB12 HB11
          go_wp2_with fail
          refine (awake_any _).mono ?_
          rintro e w13 ⟨rfl, hB13⟩
          have HB13 := Lib.hid (HBW.out.trans ((HB12.out.trans (hB13.mono HB12.out.size)).mono HBW.out.size))
          clear hB13
          go_wp2_with fail
          go_ret
          exact ⟨rfl, HB13.out⟩
end Go.Proofs.Ytedhlofmkehfkaa
