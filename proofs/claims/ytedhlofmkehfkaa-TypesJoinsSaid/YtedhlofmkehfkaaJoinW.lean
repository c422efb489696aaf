/- TypesJoins: the walk. -/
import Derived.Test.YtedhlofmkehfkaaLawJoin
import Derived.Test.YtedhlofmkehfkaaFirstW
namespace Go.Proofs.Ytedhlofmkehfkaa
open Go.RowKit Go.Shelf
set_option linter.unusedVariables false
set_option linter.unusedSimpArgs false

/-- The four nodes that are laid behind two filters. -/
def jns : List Node := [Node.k0 7, Node.k0 8, Node.ko 6 3, Node.ko 4 1]
theorem jn_ok (n : Node) (hn : n ∈ jns) : NodesOk [n] := nodesOk_of (by
  intro m hm
  simp only [List.mem_cons, List.not_mem_nil, or_false] at hm
  subst hm
  simp only [jns, List.mem_cons, List.not_mem_nil, or_false] at hn
  rcases hn with rfl | rfl | rfl | rfl <;> exact ⟨rfl, show isU32 0 from ⟨by decide, by decide⟩⟩) (by simp)
theorem k0_ok (k : Int) : NodesOk [Node.k0 k] := nodesOk_of (by
  intro m hm
  simp only [List.mem_cons, List.not_mem_nil, or_false] at hm
  subst hm
  exact ⟨rfl, show isU32 0 from ⟨by decide, by decide⟩⟩) (by simp)
@[go_sem] theorem run_storeNode_over1 (w : World) (o : Obj) (y x : Node) : (storeNode (.pointer (some ⟨w.heap.size + 1, 0, none⟩)) (.agg (enc x))).run Try.prog ((w.alloc o).alloc (.cells (enc y) 40)) = .ok () ((w.alloc o).alloc (.cells (enc x) 40)) := by
  have := run_storeNode_over (w.alloc o) y x
  simpa using this
theorem nodeAt_new1 (w : World) (o : Obj) (x : Node) : nodeAt ((w.alloc o).alloc (.cells (enc x) 40)) ⟨w.heap.size + 1, 0, none⟩ = some x := by
  have := nodeAt_new (w.alloc o) x 40
  simpa using this
theorem check_app {g cap : Nat} {all : List Node} {n : Node} {w : World} (h : Ns w (some ⟨g, 0, none⟩) (all ++ [n])) (hok : NodesOk (all ++ [n])) :
    Calls Try.prog 13 #[.slice (some ⟨g, 0, none⟩) (all.length + 1) cap] w fun e w' => e = .returned (.tuple #[.int .i64 (checkT (all ++ [n])).1, .int .i64 (checkT (all ++ [n])).2]) ∧ Below w.heap.size w w' := by
  have := check_any (some ⟨g, 0, none⟩) cap (all ++ [n]) w h hok
  rwa [List.length_append] at this
theorem keepJ {V V' wc : World} {p : Addr} {n : Node} (h : nodeAt V p = some n ∧ Below wc.heap.size wc V) (hb : Below V.heap.size V V') : nodeAt V' p = some n ∧ Below wc.heap.size wc V' :=
  ⟨nodeAt_later hb h.1, h.2.trans (hb.mono h.2.size)⟩
theorem keepJ2 {V V' wc : World} {p : Addr} {n : Node} (h : nodeAt V p = some n ∧ Below wc.heap.size wc V) (hb : Below wc.heap.size V V') (hp : p.block < wc.heap.size) : nodeAt V' p = some n ∧ Below wc.heap.size wc V' :=
  ⟨(nodeAt_congr (hb.block _ hp)).trans h.1, h.2.trans hb⟩
theorem szJ {V wc : World} {p : Addr} {n : Node} (h : nodeAt V p = some n ∧ Below wc.heap.size wc V) : wc.heap.size ≤ V.heap.size := h.2.size
theorem last2 {a b : Prop} (H : a ∧ b) : b := H.2
set_option maxRecDepth 100000 in
set_option maxHeartbeats 3200000 in
theorem joins_any (A : Option Addr) (c : Nat) (ns : List Node) (B : Option Addr) (d : Nat) (ms : List Node) (w : World) (hA : Ns w A ns) (hok : NodesOk ns) (hnA : A = none → c = 0) (hcA : ns.length ≤ c) (hrA : c ≤ 1954687338211)
    (hB : Ns w B ms) (hmok : NodesOk ms) (hnB : B = none → d = 0) (hcB : ms.length ≤ d) (hrB : d ≤ 1954687338211) :
    Calls Try.prog 7 #[.slice A ns.length c, .slice B ms.length d] w fun e w' => e = .returned (.bool true) ∧ Below w.heap.size w w' := by
  have HA := Lib.hid hA
  have HB := Lib.hid hB
  have Hok := Lib.hid hok
  have Hmok := Lib.hid hmok
  have Hn := Lib.hid hnA
  have HnB := Lib.hid hnB
  have Hlen := Lib.hid hok.len
  have Hmlen := Lib.hid hmok.len
  clear hA hB hok hmok hnA hnB hcA hcB hrA hrB
  go_enter Try.func7, Try.ntmps7
  go_wp2_with fail
  refine (copy_any A c ns _ HA.out Hlen.out Hn.out).mono ?_
  rintro e w1 ⟨g, c1, rfl, hown, hB1⟩
  have HO := Lib.hid hown.is
  have HB1 := Lib.hid hB1
  clear hown hB1
  go_wp2_with fail
  have q1 := check_any (some ⟨g, 0, none⟩) c1 ns w1 HO.out Hok.out
  obtain ⟨r, hr⟩ : ∃ r, checkT ns = r := ⟨_, rfl⟩
  rw [hr] at q1
  obtain ⟨pa, ea⟩ := r
  have Hr := Lib.hid hr
  refine q1.mono ?_
  rintro e w2 ⟨rfl, hB2⟩
  have HB2 := Lib.hid (HB1.out.trans (hB2.mono HB1.out.size))
  clear q1 hr hB2 HO HB1
  go_wp2_with fail
  refine (copy_any B d ms _ (HB.out.later HB2.out) Hmlen.out HnB.out).mono ?_
  rintro e w3 ⟨g3, c3, rfl, hown, hB3⟩
  have HO := Lib.hid hown.is
  have HB3 := Lib.hid (HB2.out.trans (hB3.mono HB2.out.size))
  clear hown hB3 HB2
  go_wp2_with fail
  have q1 := check_any (some ⟨g3, 0, none⟩) c3 ms w3 HO.out Hmok.out
  obtain ⟨r, hr⟩ : ∃ r, checkT ms = r := ⟨_, rfl⟩
  rw [hr] at q1
  obtain ⟨pb, eb⟩ := r
  have Hs := Lib.hid hr
  refine q1.mono ?_
  rintro e w4 ⟨rfl, hB4⟩
  have HB4 := Lib.hid (HB3.out.trans (hB4.mono HB3.out.size))
  clear q1 hr hB4 HO HB3
  by_cases hout : ea ≠ 0 ∨ eb ≠ 0
  · have main : Calls Try.prog 15 #[] w4 fun e w' => e = .returned (.bool true) ∧ Below w.heap.size w w' := (awake_any w4).mono fun e w' h => ⟨h.1, HB4.out.trans (h.2.mono HB4.out.size)⟩
    have HM := Lib.hid main
    clear main
    by_cases h0 : ea = 0
    · have h1 : (eb != 0) = true := by simpa [h0] using hout
      subst h0
      clear hout
      go_wp2_with fail
      refine HM.out.mono ?_
      rintro e w3 ⟨rfl, hb⟩
      go_wp2_with fail
      go_ret
      exact ⟨rfl, hb⟩
    · have h1 : (ea != 0) = true := by simpa using h0
      clear hout h0
      go_wp2_with fail
      refine HM.out.mono ?_
      rintro e w3 ⟨rfl, hb⟩
      go_wp2_with fail
      go_ret
      exact ⟨rfl, hb⟩
  · obtain rfl : ea = 0 := by
      by_cases h : ea = 0
      · exact h
      · exact absurd (.inl h) hout
    obtain rfl : eb = 0 := by
      by_cases h : eb = 0
      · exact h
      · exact absurd (.inr h) hout
    have Ha := Lib.hid (show (checkT ns).2 = 0 by rw [Hr.out])
    have Hb := Lib.hid (show (checkT ms).2 = 0 by rw [Hs.out])
    have sa := check_short Ha.out
    have sb := check_short Hb.out
    clear hout
    go_wp2_with fail
    refine (copy_any A c ns _ (HA.out.later HB4.out) Hlen.out Hn.out).mono ?_
    rintro e w5 ⟨g5, c5, rfl, hown5, hB5⟩
    have HO5 := Lib.hid hown5
    have HB5 := Lib.hid hB5
    clear hown5 hB5
    go_upto_region 6 with (at_builtin; refine wpList_app rfl _ _ rfl w4.heap.size ns ms g5 ns.length c5 rfl rfl HO5.out B ms.length d rfl rfl ((HB.out.later HB4.out).later HB5.out) HnB.out (by omega) HB5.out.size ?_; intro g6 cap6 w6 hown6 hB6 hgr6 hlt6)
    have HN6 := Lib.hid hown6.is
    have HB6 := Lib.hid (HB4.out.trans ((HB5.out.trans hB6).mono HB4.out.size))
    have Hall := Lib.hid (Hok.out.append Hmok.out (by omega))
    clear hown6 hB6 hgr6 hlt6 HO5 HB5
    obtain ⟨all, hall⟩ : ∃ l, ns ++ ms = l := ⟨_, rfl⟩
    have Heq := Lib.hid hall
    have hal : ns.length + ms.length = all.length := by rw [← hall, List.length_append]
    rw [hall] at HN6 Hall
    have sal : all.length ≤ 6000 := by omega
    rw [hal]
    clear hall hal
    go_wp2_with fail
    refine (copy_any (some ⟨g6, 0, none⟩) cap6 all _ HN6.out Hall.out.len (by simp)).mono ?_
    rintro e w7 ⟨g7, c7, rfl, hown7, hB7⟩
    have HO7 := Lib.hid hown7.is
    have HB7 := Lib.hid hB7
    clear hown7 hB7
    go_wp2_with fail
    refine (weight_any (some ⟨g7, 0, none⟩) c7 all _ HO7.out (by omega)).mono ?_
    rintro e w8 ⟨rfl, hB8⟩
    obtain ⟨wt, hwt⟩ : ∃ x, weightT all = x := ⟨_, rfl⟩
    rw [hwt]
    have Hwt := Lib.hid hwt
    have hB9 : Below w6.heap.size w6 w8 := HB7.out.trans (hB8.mono HB7.out.size)
    have HN8 := Lib.hid (HN6.out.later hB9)
    have HB8 := Lib.hid (HB6.out.trans (hB9.mono HB6.out.size))
    clear hwt hB8 hB9 HO7 HB7 HN6 HB6
    obtain ⟨fit, hfit⟩ : ∃ x, decide (wt < 3000) = x := ⟨_, rfl⟩
    go_upto_region 7 with fail
    go_wp2_with fail
    go_loopw [11] (fun x wr => ∃ i : Nat, i ≤ 4 ∧ x = .int .i64 i ∧ Below w8.heap.size w8 wr) (fun x _ => 4 - (intOf x).toNat)
    case atStart => exact ⟨0, by omega, rfl, Below.refl _ _⟩
    case round =>
      obtain ⟨i, hi, rfl, hBr⟩ := hrel
      have HBr := Lib.hid hBr
      clear hBr
      by_cases hlt : i < 4
      · have hi4 : (i : Int) < 4 := by omega
        go_upto_region 10 with fail
        go_cut [12] (fun s12 W => ∃ b, s12 = .pointer (some ⟨b, 0, none⟩) ∧ nodeAt W ⟨b, 0, none⟩ = some (jns.getD i Node.zero) ∧ Below wr.heap.size wr W)
        case first =>
          obtain ⟨b', o', e', hn⟩ := ns_new (w := wr) (l := [Node.k0 7, Node.k0 8, Node.ko 6 3, Node.ko 4 1]) (by simp)
          cases e'
          have n0 := hn 0 (by simp)
          have n1 := hn 1 (by simp)
          have n2 := hn 2 (by simp)
          have n3 := hn 3 (by simp)
          simp only [Nat.zero_add, Nat.zero_mul, Nat.one_mul, Nat.reduceMul, List.getD_cons_zero, List.getD_cons_succ] at n0 n1 n2 n3
          have h4 : i = 0 ∨ i = 1 ∨ i = 2 ∨ i = 3 := by omega
          clear hn hi hlt hi4
          rcases h4 with rfl | rfl | rfl | rfl
          all_goals
            go_wp2_with fail
            go_meet
            exact ⟨_, rfl, nodeAt_new1 _ _ _, ((Below.refl _ wr).alloc (Nat.le_refl _) _).alloc (by simp) _⟩
        case rest =>
          obtain ⟨b, rfl, hn, hBc⟩ := hcut
          have HBc := Lib.hid (HBr.out.trans (hBc.mono HBr.out.size))
          obtain ⟨n, hnn⟩ : ∃ n, jns.getD i Node.zero = n := ⟨_, rfl⟩
          rw [hnn] at hn
          have Hnn := Lib.hid hnn
          have Hnok := Lib.hid (jn_ok n (by rw [← hnn, List.getD_eq_getElem?_getD, List.getElem?_eq_getElem (by simpa [jns] using hlt)]; exact List.getElem_mem _))
          have HNc := Lib.hid (HN8.out.later HBc.out)
          clear hBc hnn
          go_upto_region 11 with fail
          go_cut [13, 14] (fun s13 s14 W => s13 = .int .i64 (checkT (all ++ [n])).1 ∧ s14 = .int .i64 (checkT (all ++ [n])).2 ∧ Below wc.heap.size wc W)
          case first =>
            have hbl : b < wc.heap.size := nodeAt_lt hn
            have Hcap := Lib.hid (Hall.out.append Hnok.out (by simp only [List.length_cons, List.length_nil]; omega))
            go_region_held3 (fun w' => nodeAt w' ⟨b, 0, none⟩ = some n ∧ Below wc.heap.size wc w')
              (first | exact ⟨hn, (Below.refl _ _).drew⟩ | exact ⟨nodeAt_later (((Below.refl _ wc).alloc (Nat.le_refl _) _).drew) hn, ((Below.refl _ wc).alloc (Nat.le_refl _) _).drew⟩ | exact keepJ (by assumption) (by assumption) | exact keepJ (by assumption) ((Below.refl _ _).alloc (Nat.le_refl _) _) | exact keepJ2 (by assumption) (by assumption) hbl | assumption)
              (first
                | (go_at_call 22; refine (copy_any (some ⟨g6, 0, none⟩) cap6 all _ (HNc.out.later (last2 (by assumption))) Hall.out.len (by simp)).mono ?_; rintro e V1 ⟨g9, c9, rfl, hown9, hB9⟩)
                | (go_at_call 13; refine (check_app hown10.is Hcap.out).mono ?_; rintro e V3 ⟨rfl, hB11⟩)
                | (refine step_app rfl (.tmp 61) (.tmp 63) rfl wc.heap.size all [n] g9 all.length c9 (by rfl) rfl (by first | exact own_mono hown9 (Nat.le_refl _) | exact own_mono hown9 (((Below.refl wc.heap.size wc).alloc (Nat.le_refl _) _).drew).size | exact own_later (own_mono hown9 (Nat.le_refl _)) (fun b hb => Below.heap_alloc _ _ _ (own_lt hown9 hb).2)) _ 1 1 (by rfl) rfl (by first | exact ns_new | exact (ns_new.later ((Below.refl _ _).drew)).later hB9 | exact ns_new.later hB9) (by simp) (by simp only [List.length_cons, List.length_nil]; omega) (szJ (p := ⟨b, 0, none⟩) (n := n) (by assumption)) ?_; intro g10 cap10 V2 hown10 hB10 hgr10 hlt10))
            all_goals
              rename_i hHH
              go_wp2_with fail
              go_meet
              exact ⟨rfl, rfl, hHH.2⟩
          case rest =>
            obtain ⟨rfl, rfl, hBd⟩ := hcut
            have HBd := Lib.hid (HBc.out.trans (hBd.mono HBc.out.size))
            obtain ⟨r, hr⟩ : ∃ r, checkT (all ++ [n]) = r := ⟨_, rfl⟩
            rw [hr]
            obtain ⟨ra, rc⟩ := r
            by_cases hi2 : i < 2
            · have hcode : rc = if wt < 3000 then 0 else 126 := by
                have hk : n.kind = 7 ∨ n.kind = 8 := by
                  rw [← Hnn.out]
                  rcases (by omega : i = 0 ∨ i = 1) with rfl | rfl
                  · exact .inl rfl
                  · exact .inr rfl
                have hu : unusedB n.kind n = true := by
                  rw [← Hnn.out]
                  rcases (by omega : i = 0 ∨ i = 1) with rfl | rfl <;> kernel_rfl
                have := join_two Ha.out Hb.out hk hu
                rw [Heq.out, Hwt.out, hr] at this
                exact this
              have i1 : (i : Int) ≤ 1 := by omega
              clear hBd hr hi2
              cases fit with
              | true =>
                have : wt < 3000 := of_decide_eq_true hfit
                rw [if_pos this] at hcode
                subst hcode
                clear this
                go_wp2_with fail
                go_round
                case rel => exact ⟨i + 1, by omega, by go_num, HBd.out⟩
                case measure => simp [intOf]; omega
              | false =>
                have : ¬ wt < 3000 := of_decide_eq_false hfit
                rw [if_neg this] at hcode
                subst hcode
                clear this
                go_wp2_with fail
                go_round
                case rel => exact ⟨i + 1, by omega, by go_num, HBd.out⟩
                case measure => simp [intOf]; omega
            · have hcode : ra = (all.length : Int) ∧ rc = 122 := by
                have hk : n.kind = 4 ∨ n.kind = 6 := by
                  rw [← Hnn.out]
                  rcases (by omega : i = 2 ∨ i = 3) with rfl | rfl
                  · exact .inr rfl
                  · exact .inl rfl
                have hu : unusedB n.kind n = true := by
                  rw [← Hnn.out]
                  rcases (by omega : i = 2 ∨ i = 3) with rfl | rfl <;> kernel_rfl
                have := join_two_no Ha.out Hb.out hk hu
                rw [Heq.out, hr] at this
                exact ⟨congrArg Prod.fst this, congrArg Prod.snd this⟩
              obtain ⟨rfl, rfl⟩ := hcode
              have i1 : (1 : Int) < (i : Int) := by omega
              have i2 : ¬ (i : Int) < 2 := by omega
              clear hBd hr hi2
              go_wp2_with fail
              go_round
              case rel => exact ⟨i + 1, by omega, by go_num, HBd.out⟩
              case measure => simp [intOf]; omega
      · have hi4 : ¬ (i : Int) < 4 := by omega
        have HBe := Lib.hid (HB8.out.trans (HBr.out.mono HB8.out.size))
        clear hfit hi4 hi
        go_wp2_with fail
        refine (copy_any A c ns _ (HA.out.later HBe.out) Hlen.out Hn.out).mono ?_
        rintro e x1 ⟨g1, d1, rfl, hown, hb⟩
        have HO1 := Lib.hid (own_later hown (W := x1.alloc (.cells (flat [Node.k0 5]).toArray 40)) fun b hb => Below.heap_alloc _ _ _ (own_lt hown hb).2)
        have HS1 := Lib.hid (show wr.heap.size ≤ (x1.alloc (.cells (flat [Node.k0 5]).toArray 40)).heap.size by have := hb.size; simp; omega)
        have Hb1 := Lib.hid hb
        clear hown hb
        go_wp2_with (at_builtin; refine wpList_app rfl _ _ rfl wr.heap.size ns [Node.k0 5] g1 ns.length d1 rfl rfl HO1.out _ 1 1 rfl rfl ns_new (by simp) (by simp only [List.length_cons, List.length_nil]; omega) HS1.out ?_; intro g2 d2 x2 hown2 hb2 hgr2 hlt2)
        refine (check_app hown2.is (Hok.out.append (k0_ok 5) (by simp only [List.length_cons, List.length_nil]; omega))).mono ?_
        rintro e x3 ⟨rfl, hb3⟩
        rw [join_minus Ha.out]
        have hb4 : Below wr.heap.size wr x3 := ((Hb1.out.alloc Hb1.out.size _).trans hb2).trans (hb3.mono ((Hb1.out.alloc Hb1.out.size _).trans hb2).size)
        have HBf := Lib.hid (HBe.out.trans (hb4.mono HBe.out.size))
        clear hown2 hb2 hgr2 hlt2 hb3 hb4 HO1 HS1 Hb1
        go_wp2_with fail
        refine (copy_any A c ns _ (HA.out.later HBf.out) Hlen.out Hn.out).mono ?_
        rintro e x4 ⟨g4, d4, rfl, hown, hb⟩
        have HO1 := Lib.hid (own_later hown (W := x4.alloc (.cells (flat [Node.k0 9]).toArray 40)) fun b hb => Below.heap_alloc _ _ _ (own_lt hown hb).2)
        have HS1 := Lib.hid (show x3.heap.size ≤ (x4.alloc (.cells (flat [Node.k0 9]).toArray 40)).heap.size by have := hb.size; simp; omega)
        have Hb1 := Lib.hid hb
        clear hown hb
        go_wp2_with (at_builtin; refine wpList_app rfl _ _ rfl x3.heap.size ns [Node.k0 9] g4 ns.length d4 rfl rfl HO1.out _ 1 1 rfl rfl ns_new (by simp) (by simp only [List.length_cons, List.length_nil]; omega) HS1.out ?_; intro g5 d5 x5 hown5 hb5 hgr5 hlt5)
        refine (check_app hown5.is (Hok.out.append (k0_ok 9) (by simp only [List.length_cons, List.length_nil]; omega))).mono ?_
        rintro e x6 ⟨rfl, hb6⟩
        have hnot := join_not Ha.out
        obtain ⟨r, hr⟩ : ∃ r, checkT (ns ++ [Node.k0 9]) = r := ⟨_, rfl⟩
        rw [hr] at hnot
        rw [hr]
        obtain ⟨ra, rc⟩ := r
        have hnot2 : rc = if weightT ns < 3000 then 0 else 126 := hnot
        have hb7 : Below x3.heap.size x3 x6 := ((Hb1.out.alloc Hb1.out.size _).trans hb5).trans (hb6.mono ((Hb1.out.alloc Hb1.out.size _).trans hb5).size)
        have HBg := Lib.hid (HBf.out.trans (hb7.mono HBf.out.size))
        have Hnot := Lib.hid hnot2
        clear hown5 hb5 hgr5 hlt5 hb6 hb7 HO1 HS1 Hb1 hr hnot hnot2
        go_wp2_with fail
        refine (copy_any A c ns _ (HA.out.later HBg.out) Hlen.out Hn.out).mono ?_
        rintro e x7 ⟨g7', d7, rfl, hown, hb⟩
        have HO7 := Lib.hid hown.is
        have HBh := Lib.hid (HBg.out.trans (hb.mono HBg.out.size))
        clear hown hb
        go_wp2_with fail
        refine (weight_any (some ⟨g7', 0, none⟩) d7 ns _ HO7.out (by omega)).mono ?_
        rintro e x8 ⟨rfl, hb8⟩
        have HBi := Lib.hid (HBh.out.trans (hb8.mono HBh.out.size))
        obtain ⟨wn, hwn⟩ : ∃ x, weightT ns = x := ⟨_, rfl⟩
        have hc := Hnot.out
        rw [hwn] at hc
        rw [hwn]
        clear hb8 hwn
        obtain ⟨li, hli⟩ : ∃ x, decide (wn < 3000) = x := ⟨_, rfl⟩
        have hrc : rc = if li = true then 0 else 126 := by
          rw [hc, ← hli]
          by_cases hl : wn < 3000 <;> simp [hl]
        clear hc
        cases li with
        | true =>
          rw [if_pos rfl] at hrc
          subst hrc
          go_wp2_with fail
          refine (awake_any _).mono ?_
          rintro e x9 ⟨rfl, hb9⟩
          have HBj := Lib.hid (HBi.out.trans (hb9.mono HBi.out.size))
          clear hb9
          go_wp2_with fail
          go_ret
          exact ⟨rfl, HBj.out⟩
        | false =>
          rw [if_neg (by simp)] at hrc
          subst hrc
          go_wp2_with fail
          refine (awake_any _).mono ?_
          rintro e x9 ⟨rfl, hb9⟩
          have HBj := Lib.hid (HBi.out.trans (hb9.mono HBi.out.size))
          clear hb9
          go_wp2_with fail
          go_ret
          exact ⟨rfl, HBj.out⟩
end Go.Proofs.Ytedhlofmkehfkaa
