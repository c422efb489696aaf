/- TypesWhole: the walk. -/
import Derived.Test.YtedhlofmkehfkaaLawWhole
import Derived.Test.YtedhlofmkehfkaaFirstW
namespace Go.Proofs.Ytedhlofmkehfkaa
open Go.RowKit Go.Shelf
set_option linter.unusedVariables false
set_option linter.unusedSimpArgs false

/-- Append some nodes to a row of one's own, nil or not. -/
theorem wpList_app0 {ops : Array Oper} {o : Oper} {a : Act} {Q : Exit → Act → World → Prop} {w : World} {rest : List Oper} (hgd : o.guard = none) (s x : Operand)
    (ho : o.op = .call { callee := .builtin .append, args := #[s, x], argTypes := #[22, 22] })
    (base : Nat) (ns ms : List Node) (v : Value) (hs : a.eval s = v) (hown : OwnN w base v ns)
    (B : Option Addr) (m d : Nat) (hx : a.eval x = .slice B m d) (hm : m = ms.length) (hms : Ns w B ms) (hpos : 0 < ms.length)
    (hlen : ns.length + ms.length ≤ 1954687338260) (hbase : base ≤ w.heap.size)
    (h : ∀ g2 cap w' k, k = (ns ++ ms).length → OwnN w' base (.slice (some ⟨g2, 0, none⟩) k cap) (ns ++ ms) → Below base w w' → wpList Try.prog ops Q rest (a.put o.dst (.slice (some ⟨g2, 0, none⟩) k cap)) w') : wpList Try.prog ops Q (o :: rest) a w := by
  subst hm
  obtain ⟨i0, hi0, hz0, hz1, hz2⟩ := info_parts nodeInfos
  obtain ⟨b, off, rfl, hc⟩ := hms.cells hpos
  refine wpList_append_lies w hgd s x 22 ho base 40 i0 (.agg (enc Node.zero)) 24 72 Try.underlying22 hi0 hz0 hz1 hz2 rfl (by decide) v ns.length (flat ns) hs hown ⟨b, off, none⟩ ms.length d (flat ms) hx (flat_length ms) hc (flat_one ms) hpos (by simp only [maxLen]; omega) (by omega) hbase w.heap.size rfl ?_
  intro g2 cap w' h1 h2 h3 h4
  rw [← List.length_append] at h1 ⊢
  refine h g2 cap w' _ rfl ?_ ((Below.refl base w).grown h2 hbase fun k e => (own_lt hown e).1)
  unfold OwnN
  rw [flat_append]
  exact h1
theorem ns_one {w : World} {b o : Nat} {n : Node} (h : nodeAt w ⟨b, o, none⟩ = some n) : Ns w (some ⟨b, o, none⟩) [n] := by
  intro _
  refine ⟨b, o, rfl, fun i hi => ?_⟩
  obtain rfl : i = 0 := by simpa using hi
  simpa using h
/-- A slice of slices of nodes. -/
def Pts (w : World) (PA : Option Addr) (ls : List (List Node)) : Prop := ∀ i, i < ls.length → ∃ g g2 c, PA = some ⟨g, 0, none⟩ ∧ w.cell? ⟨g, i, none⟩ = some (.slice (some ⟨g2, 0, none⟩) (ls.getD i []).length c) ∧ Ns w (some ⟨g2, 0, none⟩) (ls.getD i [])
theorem Pts.later {w W : World} {PA : Option Addr} {ls : List (List Node)} (h : Pts w PA ls) (hb : Below w.heap.size w W) : Pts W PA ls := by
  intro i hi
  obtain ⟨g, g2, c, e, h1, h2⟩ := h i hi
  exact ⟨g, g2, c, e, (hb.cell (World.block_lt_of_cell? w _ h1)).trans h1, h2.later hb⟩
theorem Pts.of_own {w : World} {base g : Nat} {ls : List (List Node)} {gs : List (Nat × Nat)} (h : OwnNN w base g ls gs) : Pts w (some ⟨g, 0, none⟩) ls := fun i hi => ⟨g, _, _, rfl, h.row i hi, (h.own i hi).is⟩
theorem flatten_take {ls : List (List Node)} {i : Nat} (hi : i < ls.length) : (ls.take (i + 1)).flatten = (ls.take i).flatten ++ ls.getD i [] := by
  rw [List.take_add_one, List.getElem?_eq_getElem hi, List.flatten_append, List.getD_eq_getElem?_getD, List.getElem?_eq_getElem hi]
  simp
theorem getD_memL {ls : List (List Node)} {i : Nat} (hi : i < ls.length) : ls.getD i [] ∈ ls := by
  rw [List.getD_eq_getElem?_getD, List.getElem?_eq_getElem hi]
  exact List.getElem_mem hi
theorem flatten_len {ls : List (List Node)} (i : Nat) : (ls.take i).flatten.length ≤ ls.flatten.length := by
  have h : ls.flatten = (ls.take i).flatten ++ (ls.drop i).flatten := by rw [← List.flatten_append, List.take_append_drop]
  rw [h, List.length_append]
  omega
theorem part_len {ls : List (List Node)} {p : List Node} (h : p ∈ ls) : p.length ≤ ls.flatten.length := by
  obtain ⟨s, t, rfl⟩ := List.append_of_mem h
  simp
  omega
theorem part_ok {ns p : List Node} {ls : List (List Node)} {root : Node} (hok : NodesOk ns) (hf : ls.flatten ++ [root] = ns) (hp : p ∈ ls) : NodesOk p := by
  have hm : ∀ n ∈ p, n ∈ ns := fun n hn => by
    rw [← hf]
    exact List.mem_append_left _ (List.mem_flatten.2 ⟨p, hp, hn⟩)
  refine ⟨fun n hn => hok.bytes n (hm n hn), fun n hn => hok.u32 n (hm n hn), ?_⟩
  have h1 := part_len hp
  have h2 := congrArg List.length hf
  have h3 := hok.len
  rw [List.length_append] at h2
  omega
set_option maxRecDepth 100000 in
set_option maxHeartbeats 3200000 in
theorem whole_law (A : Option Addr) (c : Nat) (ns : List Node) (w : World) (hA : Ns w A ns) (hok : NodesOk ns) (hnA : A = none → c = 0) (hcA : ns.length ≤ c) (hrA : c ≤ 1954687338211) :
    Calls Try.prog 6 #[.slice A ns.length c] w fun e w' => e = .returned (.bool true) ∧ Below w.heap.size w w' := by
  have HA := Lib.hid hA
  have Hok := Lib.hid hok
  have Hn := Lib.hid hnA
  have hl2 : ns.length ≤ 1954687338211 := by omega
  have Hlen := Lib.hid hok.len
  clear hA hok hnA hrA
  go_enter Try.func6, Try.ntmps6
  go_wp2_with fail
  refine (copy_any A c ns _ HA.out Hlen.out Hn.out).mono ?_
  rintro e w1 ⟨g, c1, rfl, hown, hB1⟩
  have HO := Lib.hid hown
  have HB1 := Lib.hid hB1
  clear hown hB1
  go_wp2_with fail
  refine (parts_any (some ⟨g, 0, none⟩) c1 ns w1 HO.out.is (by omega) HO.out.capLe).mono ?_
  rintro e w2 ⟨hB2, hres⟩
  have HB2 := Lib.hid (HB1.out.trans (hB2.mono HB1.out.size))
  clear hB2 HO
  have key : partsT ns = none ∧ e = .returned (.tuple #[.slice none 0 0, .bool false]) ∨ ∃ ls PA pc, partsT ns = some ls ∧ e = .returned (.tuple #[.slice PA ls.length pc, .bool true]) ∧ Pts w2 PA ls := by
    rcases hres with h | ⟨h, rfl⟩ | ⟨ls, g, cap, gs, h, hpos, rfl, hNN⟩
    · exact .inl h
    · exact .inr ⟨[], none, 0, h, rfl, fun i hi => by cases hi⟩
    · exact .inr ⟨ls, _, cap, h, rfl, Pts.of_own hNN⟩
  clear hres HB1
  rcases key with ⟨hno, rfl⟩ | ⟨ls, PA, pc, hls, rfl, hP⟩
  · clear hno
    go_wp2_with fail
    refine (awake_any _).mono ?_
    rintro e w3 ⟨rfl, hb⟩
    have HB3 := Lib.hid (HB2.out.trans (hb.mono HB2.out.size))
    clear hb
    go_wp2_with fail
    go_ret
    exact ⟨rfl, HB3.out⟩
  · obtain ⟨hpos, hl2', hpp, hfl⟩ := parts_shape hls
    have hck := parts_check hls
    obtain ⟨root, hroot⟩ : ∃ n, ns.getD (ns.length - 1) Node.zero = n := ⟨_, rfl⟩
    rw [hroot] at hfl hck
    have Hck := Lib.hid hck
    have Hfl := Lib.hid hfl
    have Hpp := Lib.hid hpp
    have HP := Lib.hid hP
    obtain ⟨b, o, rfl, hn⟩ := (HA.out.later HB2.out) hpos
    have h1 := hn (ns.length - 1) (by omega)
    rw [hroot] at h1
    have H1 := Lib.hid h1
    have Hpos := Lib.hid hpos
    have i1 : (1 : Int) ≤ (ns.length : Int) := by omega
    have i2 : (ls.length : Int) ≤ 2 := by omega
    have i3 : (ns.length : Int) ≤ (c : Int) := by omega
    have i4 : (ns.length : Int) ≤ 1954687338211 := by omega
    clear hls hck hfl hpp hP hn h1 hroot hpos hl2'
    have hne : ((ns.length : Int) == 0) = false := beq_eq_false_iff_ne.2 (by omega)
    go_upto_region 7 with fail
    go_wp2_with fail
    have e1 : ns.length - (ns.length - 1) = 1 := by omega
    rw [e1]
    refine (copy_any (some ⟨b, o + (ns.length - 1) * 24, none⟩) (c - (ns.length - 1)) [root] _ (ns_one H1.out) (by simp) (by simp)).mono ?_
    rintro e w3 ⟨g3, c3, rfl, hown3, hB3⟩
    have HO3 := Lib.hid hown3.is
    have HB3 := Lib.hid hB3
    clear e1 hown3 hB3
    go_wp2_with fail
    refine (weight_any (some ⟨g3, 0, none⟩) c3 [root] _ HO3.out (by simp)).mono ?_
    rintro e w4 ⟨rfl, hB4⟩
    obtain ⟨wr0, hwr⟩ : ∃ x, weightT [root] = x := ⟨_, rfl⟩
    rw [hwr]
    have hwb := weightT_range [root]
    rw [hwr] at hwb
    have hwb0 : 0 ≤ wr0 ∧ wr0 ≤ 80 := by simpa using hwb
    obtain ⟨hw0, hw1⟩ := hwb0
    have Hwr := Lib.hid hwr
    have hB5 : Below w2.heap.size w2 w4 := HB3.out.trans (hB4.mono HB3.out.size)
    have HP4 := Lib.hid (HP.out.later hB5)
    have HB4 := Lib.hid (HB2.out.trans (hB5.mono HB2.out.size))
    have H4 := Lib.hid (nodeAt_later hB5 H1.out)
    have HA4 := Lib.hid ((HA.out.later HB2.out).later hB5)
    have hnl : ls.flatten.length + 1 = ns.length := by
      have := congrArg List.length Hfl.out
      simpa using this
    clear hwb hwr hB4 hB5 HO3 HB3
    go_wp2_with fail
    go_loopw [7, 5, 6] (fun x y z wr => ∃ (i : Nat), i ≤ ls.length ∧ x = .int .i64 i ∧ OwnN wr w4.heap.size y (ls.take i).flatten ∧ z = .int .i64 (wr0 + weightT (ls.take i).flatten) ∧ Below w4.heap.size w4 wr) (fun x _ _ _ => ls.length - (intOf x).toNat)
    case atStart => exact ⟨0, by omega, rfl, World.ownsRow_nil _ _ _ _, by simp [weightT], Below.refl _ _⟩
    case round =>
      obtain ⟨i, hi, rfl, hO, rfl, hB⟩ := hrel
      obtain ⟨AA, ca, rfl, _⟩ := hO.ns
      have HO := Lib.hid hO
      have HB := Lib.hid hB
      clear hO hB
      by_cases hlt : i < ls.length
      · obtain ⟨gp, g2, cp, rfl, hcell4, hNp4⟩ := HP4.out i hlt
        obtain ⟨p, hp⟩ : ∃ p, ls.getD i [] = p := ⟨_, rfl⟩
        have hmem : p ∈ ls := hp ▸ getD_memL hlt
        have hppos := Hpp.out p hmem
        have hplen := part_len hmem
        have hflen := flatten_len (ls := ls) i
        have hftake := flatten_take hlt
        rw [hp] at hcell4 hNp4 hftake
        have hwtake : weightT (ls.take (i + 1)).flatten = weightT (ls.take i).flatten + weightT p := by rw [hftake, weightT_append]
        have hws := weightT_range (ls.take i).flatten
        have hwp := weightT_range p
        obtain ⟨s, hs⟩ : ∃ s, weightT (ls.take i).flatten = s := ⟨_, rfl⟩
        rw [hs] at hwtake hws ⊢
        obtain ⟨fl, hfl⟩ : ∃ l, (ls.take i).flatten = l := ⟨_, rfl⟩
        have HO2 := HO.out
        rw [hfl] at hws hflen hftake HO2 ⊢
        have hs1 : s ≤ 160000000000000 := by omega
        have hwp1 : weightT p ≤ 160000000000000 := by omega
        have hs0 := hws.1
        have hsum : fl.length + p.length ≤ 1954687338260 := by
          have := flatten_len (ls := ls) (i + 1)
          rw [hftake, List.length_append] at this
          omega
        have hpl3 : p.length ≤ 2000000000000 := by omega
        have hcell := (HB.out.cell (World.block_lt_of_cell? _ _ hcell4)).trans hcell4
        have HC4 := Lib.hid hcell4
        have HN4 := Lib.hid hNp4
        have HNr := Lib.hid (hNp4.later HB.out)
        have HO3 := Lib.hid HO2
        have HT := Lib.hid hwtake
        have HF := Lib.hid hftake
        have Hpp2 := Lib.hid hppos
        have Hsum := Lib.hid hsum
        have Hpl := Lib.hid hpl3
        obtain ⟨wp, hwpe⟩ : ∃ x, weightT p = x := ⟨_, rfl⟩
        rw [hwpe] at hwp hwp1
        have hwp0 := hwp.1
        have Hwp := Lib.hid hwpe
        have Hlt := Lib.hid hlt
        have i5 : (i : Int) < (ls.length : Int) := by omega
        have i6 : (0 : Int) ≤ (i : Int) := by omega
        clear HO HO2 hp hmem hppos hplen hflen hftake hwtake hws hwp hs hfl hwpe hcell4 hNp4 hsum hpl3 hlt hi
        go_upto_region 12 with (at_builtin; refine wpList_app0 rfl _ _ rfl w4.heap.size fl p _ rfl HO3.out (some ⟨g2, 0, none⟩) p.length cp rfl rfl HNr.out Hpp2.out Hsum.out HB.out.size ?_; intro g5 cap5 w5 k5 hk5 hown5 hB5; have Hk5 := Lib.hid hk5; clear hk5)
        have hB6 : Below w4.heap.size w4 w5 := HB.out.trans hB5
        have HB6 := Lib.hid hB6
        have HO5 := Lib.hid hown5
        have hcell5 := (hB6.cell (World.block_lt_of_cell? _ _ HC4.out)).trans HC4.out
        clear hown5 hB5 hcell hB6
        go_wp2_with fail
        refine (weight_any (some ⟨g2, 0, none⟩) cp p _ (HN4.out.later HB6.out) Hpl.out).mono ?_
        rw [Hwp.out]
        rintro e w6 ⟨rfl, hB7⟩
        have HB7 := Lib.hid hB7
        clear hB7
        go_wp2_with fail
        go_round
        case rel =>
          refine ⟨i + 1, Hlt.out, by go_num, ?_, by rw [HT.out, Hwp.out, Int.add_assoc], HB6.out.trans (HB7.out.mono HB6.out.size)⟩
          rw [HF.out]
          exact own_later HO5.out fun b hb => HB7.out.block b (own_lt HO5.out hb).2
        case measure => have := Hlt.out; simp [intOf]; omega
      · have hie : ls.take i = ls := List.take_of_length_le (by omega)
        have HO2 := Lib.hid (show OwnN wr w4.heap.size (.slice AA ls.flatten.length ca) ls.flatten by have := HO.out; rwa [hie] at this)
        rw [hie]
        have hwt : wr0 + weightT ls.flatten = weightT ns := by
          rw [← Hfl.out, weightT_append, Hwr.out]
          omega
        rw [hwt]
        have hj : ¬ (i : Int) < (ls.length : Int) := by omega
        have hnr : nodeAt wr ⟨b, o + (ns.length - 1) * 24, none⟩ = some root := nodeAt_later HB.out H4.out
        have HBW := Lib.hid (HB4.out.trans (HB.out.mono HB4.out.size))
        have HPr := Lib.hid (HP4.out.later HB.out)
        have HAr := Lib.hid (HA4.out.later HB.out)
        have HOn := Lib.hid (own_later HO2.out (W := wr.alloc (.cells (flat [root]).toArray 40)) fun b hb => Below.heap_alloc _ _ _ (own_lt HO2.out hb).2)
        have HSn := Lib.hid (show w4.heap.size ≤ (wr.alloc (.cells (flat [root]).toArray 40)).heap.size by have := HB.out.size; simp; omega)
        have Hnl := Lib.hid hnl
        have i7 : ns.length - 1 < ns.length := by omega
        clear hie hwt HO hi hlt hnl
        go_upto_region 13 with fail
        go_upto_region 14 with (at_builtin; refine wpList_app0 rfl _ _ rfl w4.heap.size ls.flatten [root] _ rfl HOn.out _ 1 1 rfl rfl ns_new (by simp) (by have := Hnl.out; simp only [List.length_cons, List.length_nil]; omega) HSn.out ?_; intro g5 cap5 w5 k5 hk5 hown5 hB5; have Hk5 := Lib.hid hk5; clear hk5)
        have hk5 := Hk5.out
        rw [Hfl.out] at hk5 hown5
        subst hk5
        have hn5 := hown5
        have HO5 := Lib.hid hn5.is
        have HB5 := Lib.hid ((HB.out.alloc HB.out.size _).trans hB5)
        clear hown5 hB5 hn5 HOn HSn HO2 hnr
        go_wp2_with fail
        refine (same_any (some ⟨g5, 0, none⟩) (some ⟨b, o, none⟩) cap5 c ns ns w5 HO5.out (HA4.out.later HB5.out) (by omega) (by omega)).mono ?_
        have hdt : decide (ns = ns) = true := decide_eq_true rfl
        rw [hdt]
        rintro e w6 ⟨rfl, hB6⟩
        have HB6 := Lib.hid (HB5.out.trans (hB6.mono HB5.out.size))
        clear hdt hB6 HO5
        go_wp2_with fail
        refine (copy_any (some ⟨b, o, none⟩) c ns _ (HA4.out.later HB6.out) Hlen.out (by simp)).mono ?_
        rintro e w7 ⟨g7, c7, rfl, hown7, hB7⟩
        have HO7 := Lib.hid hown7.is
        have HB7 := Lib.hid (HB6.out.trans (hB7.mono HB6.out.size))
        clear hown7 hB7
        go_wp2_with fail
        refine (weight_any (some ⟨g7, 0, none⟩) c7 ns _ HO7.out (by omega)).mono ?_
        rintro e w8 ⟨rfl, hB8⟩
        have HB8 := Lib.hid (HB7.out.trans (hB8.mono HB7.out.size))
        clear hB8 HO7
        go_wp2_with fail
        refine (copy_any (some ⟨b, o, none⟩) c ns _ (HA4.out.later HB8.out) Hlen.out (by simp)).mono ?_
        rintro e w9 ⟨g9, c9, rfl, hown9, hB9⟩
        have HO9 := Lib.hid hown9.is
        have HB9 := Lib.hid (HB8.out.trans (hB9.mono HB8.out.size))
        clear hown9 hB9
        go_wp2_with fail
        have q1 := check_any (some ⟨g9, 0, none⟩) c9 ns w9 HO9.out Hok.out
        obtain ⟨r, hr⟩ : ∃ r, checkT ns = r := ⟨_, rfl⟩
        rw [hr] at q1
        obtain ⟨pa, ea⟩ := r
        have hck : ea = 0 → ∀ p ∈ ls, (checkT p).2 = if wantsK root.kind = true then 0 else 121 := fun h => Hck.out (by rw [hr]; exact h)
        have HCk := Lib.hid hck
        refine q1.mono ?_
        rintro e w10 ⟨rfl, hB10⟩
        have HB10 := Lib.hid (HB9.out.trans (hB10.mono HB9.out.size))
        have H10 := Lib.hid (nodeAt_later HB10.out H4.out)
        have HP10 := Lib.hid (HP4.out.later HB10.out)
        have HBX := Lib.hid (HB4.out.trans (HB10.out.mono HB4.out.size))
        clear q1 hr hB10 HO9 hck
        go_wp2_with fail
        go_loopw [10] (fun x wq => ∃ (j : Nat), j ≤ ls.length ∧ x = .int .i64 j ∧ Below w10.heap.size w10 wq) (fun x _ => ls.length - (intOf x).toNat)
        case atStart => exact ⟨0, by omega, rfl, Below.refl _ _⟩
        case round =>
          obtain ⟨j, hj1, rfl, hBq⟩ := hrel
          have HBq := Lib.hid hBq
          clear hBq
          by_cases hlt : j < ls.length
          · obtain ⟨gp, g2, cp, rfl, hcell, hNp⟩ := (HP10.out.later HBq.out) j hlt
            obtain ⟨p, hp⟩ : ∃ p, ls.getD j [] = p := ⟨_, rfl⟩
            have hmem : p ∈ ls := hp ▸ getD_memL hlt
            rw [hp] at hcell hNp
            have HNp := Lib.hid hNp
            have Hpk := Lib.hid (part_ok Hok.out Hfl.out hmem)
            have Hlt := Lib.hid hlt
            have Hmem := Lib.hid hmem
            have i5 : (j : Int) < (ls.length : Int) := by omega
            have i6 : (0 : Int) ≤ (j : Int) := by omega
            clear hp hmem hNp hlt hj1 hj
            go_wp2_with fail
            have q1 := check_any (some ⟨g2, 0, none⟩) cp p _ HNp.out Hpk.out
            obtain ⟨r, hr⟩ : ∃ r, checkT p = r := ⟨_, rfl⟩
            rw [hr] at q1
            obtain ⟨pb, eb⟩ := r
            have hcode : ea = 0 → eb = if wantsK root.kind = true then 0 else 121 := fun h => by
              have := HCk.out h p Hmem.out
              rw [hr] at this
              exact this
            have Hcode := Lib.hid hcode
            refine q1.mono ?_
            rintro e w11 ⟨rfl, hB11⟩
            have HB11 := Lib.hid (HBq.out.trans (hB11.mono HBq.out.size))
            have hn11 := nodeAt_later HB11.out H10.out
            have hk11 : w11.cell? ⟨b, o + (ns.length - 1) * 24, none⟩ = some (.int .i64 root.kind) := by
              have := nodeIn_of hn11 0 _ rfl
              rwa [add_plain, Nat.add_zero] at this
            clear q1 hr hB11 hcode hcell hn11
            go_upto_region 21 with fail
            go_cut [13] (fun s13 W => s13 = .bool (wantsK root.kind) ∧ W = w11)
            case first =>
              by_cases k7 : root.kind = 7
              · rw [k7] at hk11
                go_wp2_with fail
                go_meet
                exact ⟨by rw [k7]; rfl, rfl⟩
              by_cases k8 : root.kind = 8
              · rw [k8] at hk11
                go_wp2_with fail
                go_meet
                exact ⟨by rw [k8]; rfl, rfl⟩
              have k7' : (root.kind == 7) = false := by simpa using k7
              have k8' : (root.kind == 8) = false := by simpa using k8
              have hw : wantsK root.kind = decide (root.kind = 9) := by
                unfold wantsK
                simp [k7, k8]
              have Hw := Lib.hid hw
              clear k7 k8 hw
              go_wp2_with fail
              go_meet
              refine ⟨?_, rfl⟩
              rw [Hw.out]
              by_cases k9 : root.kind = 9 <;> simp [k9]
            case rest =>
              obtain ⟨rfl, rfl⟩ := hcut
              obtain ⟨wk, hwk⟩ : ∃ x, wantsK root.kind = x := ⟨_, rfl⟩
              have hc := Hcode.out
              rw [hwk] at hc ⊢
              clear hwk
              by_cases h0 : ea = 0
              · have hc2 := hc h0
                clear hc
                subst h0
                cases wk with
                | true =>
                  rw [if_pos rfl] at hc2
                  subst hc2
                  go_wp2_with fail
                  go_round
                  case rel => have := Hlt.out; exact ⟨j + 1, by omega, by go_num, HB11.out⟩
                  case measure => have := Hlt.out; simp [intOf]; omega
                | false =>
                  rw [if_neg (by simp)] at hc2
                  subst hc2
                  go_wp2_with fail
                  go_round
                  case rel => have := Hlt.out; exact ⟨j + 1, by omega, by go_num, HB11.out⟩
                  case measure => have := Hlt.out; simp [intOf]; omega
              · have h0' : (ea == 0) = false := by simpa using h0
                clear hc h0
                go_wp2_with fail
                go_round
                case rel => have := Hlt.out; exact ⟨j + 1, by omega, by go_num, HB11.out⟩
                case measure => have := Hlt.out; simp [intOf]; omega
          · have hj2 : ¬ (j : Int) < (ls.length : Int) := by omega
            have HBy := Lib.hid (HBX.out.trans (HBq.out.mono HBX.out.size))
            clear hlt hj1
            go_wp2_with fail
            refine (awake_any _).mono ?_
            rintro e w13 ⟨rfl, hb13⟩
            have HBz := Lib.hid (HBy.out.trans (hb13.mono HBy.out.size))
            clear hb13
            go_wp2_with fail
            go_ret
            exact ⟨rfl, HBz.out⟩
end Go.Proofs.Ytedhlofmkehfkaa
