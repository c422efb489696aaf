/- The document's own Arity, Tree, Begin, Parts. -/
import Derived.Test.YtedhlofmkehfkaaLawParts
import Derived.Test.YtedhlofmkehfkaaApp
namespace Go.Proofs.Ytedhlofmkehfkaa
open Go.RowKit Go.Shelf
set_option linter.unusedVariables false
set_option linter.unusedSimpArgs false

theorem refarity_any (k : Int) (w : World) : Calls Try.prog 31 #[.int .i64 k] w fun e w' => e = .returned (.int .i64 (arI k)) ∧ w = w' := by
  go_enter Try.func31, Try.ntmps31
  go_wp2
  all_goals
    go_ret
    refine ⟨?_, rfl⟩
    simp only [beq_iff_eq, beq_eq_false_iff_ne, ne_eq] at *
    simp [arI, arityK, *]
theorem leftT_drop {ns : List Node} {i : Nat} (hi : i < ns.length) (l : Int) : leftT (ns.drop i) l = if arI (ns.getD i Node.zero).kind < 0 ∨ arI (ns.getD i Node.zero).kind > l then none else leftT (ns.drop (i + 1)) (l - arI (ns.getD i Node.zero).kind + 1) := by
  have e : ns.getD i Node.zero = ns[i] := by simp [List.getD_eq_getElem?_getD, List.getElem?_eq_getElem hi]
  rw [List.drop_eq_getElem_cons hi, e]
  rfl
set_option maxRecDepth 100000 in
set_option maxHeartbeats 1600000 in
theorem reftree_any (A : Option Addr) (c : Nat) (ns : List Node) (w : World) (hA : Ns w A ns) (hnl : ns.length ≤ 1954687338260) :
    Calls Try.prog 30 #[.slice A ns.length c] w fun e w' => e = .returned (.bool (treeB ns)) ∧ Below w.heap.size w w' := by
  have HA := Lib.hid hA
  clear hA
  obtain ⟨tb, htb⟩ : ∃ b, treeB ns = b := ⟨_, rfl⟩
  rw [htb]
  have Htb := Lib.hid (show decide (leftT ns 0 = some 1) = tb from htb)
  clear htb
  go_enter Try.func30, Try.ntmps30
  go_wp2_with fail
  go_loopw [4, 3] (fun x y wr => ∃ (i l : Nat), i ≤ ns.length ∧ x = .int .i64 i ∧ y = .int .i64 l ∧ l ≤ i ∧ decide (leftT (ns.drop i) l = some 1) = tb ∧ w = wr) (fun x _ _ => ns.length - (intOf x).toNat)
  case atStart => exact ⟨0, 0, by omega, rfl, rfl, Nat.le_refl _, Htb.out, rfl⟩
  case round =>
    obtain ⟨i, l, hi, rfl, rfl, hl, hd, rfl⟩ := hrel
    have Hd := Lib.hid hd
    clear hd
    by_cases hlt : i < ns.length
    · obtain ⟨b, o, rfl, hn⟩ := HA.out (by omega)
      have h1 := hn i hlt
      have hstep := leftT_drop hlt (l : Int)
      obtain ⟨n, hnn⟩ : ∃ n, ns.getD i Node.zero = n := ⟨_, rfl⟩
      rw [hnn] at h1 hstep
      have k0 : w.cell? ⟨b, o + i * 24, none⟩ = some (.int .i64 n.kind) := by
        have := nodeIn_of h1 0 _ rfl
        rwa [add_plain, Nat.add_zero] at this
      have hr := arI_range n.kind
      have Hst := Lib.hid hstep
      have i1 : (i : Int) < (ns.length : Int) := by omega
      have i2 : (0 : Int) ≤ (i : Int) := by omega
      clear hn h1 hnn hstep
      go_wp2_with fail
      refine (refarity_any _ _).mono ?_
      rintro e w2 ⟨rfl, rfl⟩
      obtain ⟨a, ha⟩ : ∃ a, arI n.kind = a := ⟨_, rfl⟩
      rw [ha] at hr ⊢
      have Ha := Lib.hid ha
      clear ha
      by_cases hbad : a < 0 ∨ a > (l : Int)
      · have htf : tb = false := by
          have h := Hd.out
          rw [Hst.out, Ha.out, if_pos hbad] at h
          rw [← h]
          rfl
        subst htf
        by_cases hneg : a < 0
        · clear hbad
          go_wp2_with fail
          go_ret
          exact ⟨rfl, Below.refl _ _⟩
        · have hgt : (l : Int) < a := by omega
          have hneg2 : 0 ≤ a := by omega
          clear hbad hneg
          go_wp2_with fail
          go_ret
          exact ⟨rfl, Below.refl _ _⟩
      · have hneg2 : 0 ≤ a := by omega
        have hle : a ≤ (l : Int) := by omega
        have hd2 := Hd.out
        rw [Hst.out, Ha.out, if_neg hbad] at hd2
        obtain ⟨l2, hl2⟩ : ∃ l2 : Nat, (l : Int) - a + 1 = (l2 : Int) := ⟨((l : Int) - a + 1).toNat, by omega⟩
        have Hl2 := Lib.hid hl2
        rw [hl2] at hd2
        have Hd2 := Lib.hid hd2
        clear hbad hd2 hl2
        go_wp2_with fail
        go_round
        case rel => exact ⟨i + 1, l2, by omega, by go_num, by rw [← Hl2.out], by have := Hl2.out; omega, Hd2.out, by first | rfl | trivial⟩
        case measure => simp [intOf]; omega
    · have hie : ns.drop i = [] := List.drop_of_length_le (by omega)
      have hd2 := Hd.out
      rw [hie] at hd2
      have htf : tb = decide (l = 1) := by
        rw [← hd2]
        by_cases h1 : l = 1
        · subst h1; rfl
        · rw [decide_eq_false h1]
          refine decide_eq_false fun h => h1 ?_
          have := Option.some.inj h
          omega
      have Htf := Lib.hid htf
      have hi1 : ¬ (i : Int) < (ns.length : Int) := by omega
      clear hie hd2 htf
      go_wp2_with fail
      go_ret
      rw [Htf.out]
      refine ⟨?_, Below.refl _ _⟩
      by_cases h1 : l = 1
      · subst h1; rfl
      · have : ¬ (l : Int) = 1 := by omega
        simp [h1, this]
theorem begT_succ (ns : List Node) (i : Nat) (need : Int) : begT ns (i + 1) need = if need - 1 + arI (ns.getD i Node.zero).kind = 0 then i else begT ns i (need - 1 + arI (ns.getD i Node.zero).kind) := rfl
set_option maxRecDepth 100000 in
set_option maxHeartbeats 1600000 in
theorem refbegin_any (A : Option Addr) (c : Nat) (ns : List Node) (at0 : Nat) (w : World) (hA : Ns w A ns) (hnl : ns.length ≤ 1954687338260) (hat : at0 ≤ ns.length) :
    Calls Try.prog 32 #[.slice A ns.length c, .int .i64 ((at0 : Int) - 1)] w fun e w' => e = .returned (.int .i64 (begT ns at0 1)) ∧ Below w.heap.size w w' := by
  have HA := Lib.hid hA
  clear hA
  obtain ⟨r, hr⟩ : ∃ b, begT ns at0 1 = b := ⟨_, rfl⟩
  rw [hr]
  have Hr := Lib.hid hr
  clear hr
  go_enter Try.func32, Try.ntmps32
  go_wp2_with fail
  go_loopw [1, 5] (fun x y wr => ∃ (k : Nat) (need : Int), k ≤ at0 ∧ x = .int .i64 ((k : Int) - 1) ∧ y = .int .i64 need ∧ 1 - 2 * ((at0 : Int) - k) ≤ need ∧ need ≤ 1 + ((at0 : Int) - k) ∧ begT ns k need = r ∧ w = wr) (fun x _ _ => (intOf x + 1).toNat)
  case atStart => exact ⟨at0, 1, Nat.le_refl _, rfl, rfl, by omega, by omega, Hr.out, rfl⟩
  case round =>
    obtain ⟨k, need, hk, rfl, rfl, hb1, hb2, hd, rfl⟩ := hrel
    have Hd := Lib.hid hd
    clear hd
    match k, hk, hb1, hb2, Hd with
    | 0, hk, hb1, hb2, Hd =>
      have hr0 : r = 0 := Hd.out.symm
      subst hr0
      go_wp2_with fail
      go_ret
      exact ⟨rfl, Below.refl _ _⟩
    | k + 1, hk, hb1, hb2, Hd =>
      obtain ⟨b, o, rfl, hn⟩ := HA.out (by omega)
      have h1 := hn k (by omega)
      have hstep := begT_succ ns k need
      obtain ⟨n, hnn⟩ : ∃ n, ns.getD k Node.zero = n := ⟨_, rfl⟩
      rw [hnn] at h1 hstep
      have k0 : w.cell? ⟨b, o + k * 24, none⟩ = some (.int .i64 n.kind) := by
        have := nodeIn_of h1 0 _ rfl
        rwa [add_plain, Nat.add_zero] at this
      have hr := arI_range n.kind
      have Hst := Lib.hid hstep
      have e1 : ((k + 1 : Nat) : Int) - 1 = (k : Int) := by omega
      rw [e1]
      have i1 : (k : Int) < (ns.length : Int) := by omega
      have i2 : (0 : Int) ≤ (k : Int) := by omega
      have b1 : -4000000000000 ≤ need := by omega
      have b2 : need ≤ 4000000000000 := by omega
      clear hn h1 hnn hstep e1
      go_wp2_with fail
      refine (refarity_any _ _).mono ?_
      rintro e w2 ⟨rfl, rfl⟩
      obtain ⟨a, ha⟩ : ∃ a, arI n.kind = a := ⟨_, rfl⟩
      rw [ha] at hr ⊢
      obtain ⟨r1, r2⟩ := hr
      have hd := Hd.out
      rw [Hst.out, ha] at hd
      clear ha
      obtain ⟨m, hm⟩ : ∃ m, need - 1 + a = m := ⟨_, rfl⟩
      rw [hm] at hd
      have Hm := Lib.hid hm
      clear hm
      by_cases hz : need - 1 + a = 0
      · have hz2 := hz
        rw [Hm.out] at hz2
        rw [if_pos hz2] at hd
        have Hdk := Lib.hid hd
        clear hd hz2
        go_wp2_with fail
        go_ret
        rw [Hdk.out]
        exact ⟨rfl, Below.refl _ _⟩
      · have hz2 := hz
        rw [Hm.out] at hz2
        rw [if_neg hz2] at hd
        have Hdk := Lib.hid hd
        have hzb : (need - 1 + a == 0) = false := beq_eq_false_iff_ne.2 hz
        clear hd hz2 hz
        go_wp2_with fail
        go_round
        case rel => exact ⟨k, _, by omega, by go_num, rfl, by omega, by omega, by rw [Hm.out]; exact Hdk.out, by first | rfl | trivial⟩
        case measure => simp [intOf] <;> omega
set_option maxRecDepth 100000 in
set_option maxHeartbeats 1600000 in
theorem refparts_any (A : Option Addr) (c : Nat) (ns : List Node) (w : World) (hA : Ns w A ns) (hnl : ns.length ≤ 1954687338260) (hcap : ns.length ≤ c) :
    Calls Try.prog 20 #[.slice A ns.length c] w fun e w' => Below w.heap.size w w' ∧
      ((partsT ns = none ∧ e = .returned (.tuple #[.slice none 0 0, .bool false])) ∨
       (partsT ns = some [] ∧ e = .returned (.tuple #[.slice none 0 0, .bool true])) ∨
       (∃ ls g cap gs, partsT ns = some ls ∧ 0 < ls.length ∧ e = .returned (.tuple #[.slice (some ⟨g, 0, none⟩) ls.length cap, .bool true]) ∧ OwnNN w' w.heap.size g ls gs)) := by
  have hrp := ref_parts ns
  have HA := Lib.hid hA
  clear hA
  go_enter Try.func20, Try.ntmps20
  go_wp2_with fail
  refine (reftree_any A c ns _ HA.out hnl).mono ?_
  rintro e w1 ⟨rfl, hB1⟩
  unfold refPartsT at hrp
  obtain ⟨tb, htb⟩ : ∃ b, treeB ns = b := ⟨_, rfl⟩
  rw [htb] at hrp ⊢
  have HB1 := Lib.hid hB1
  clear htb hB1
  cases tb with
  | false =>
    rw [if_pos rfl] at hrp
    have HP := Lib.hid hrp.symm
    clear hrp
    go_wp2_with fail
    go_ret2
    exact ⟨HB1.out, .inl ⟨HP.out, rfl⟩⟩
  | true =>
    rw [if_neg (by simp)] at hrp
    have hsome : ∃ ls, partsT ns = some ls := by
      rw [← hrp]
      split
      · exact ⟨_, rfl⟩
      · split <;> exact ⟨_, rfl⟩
    obtain ⟨ls, hls⟩ := hsome
    obtain ⟨hpos, _, hpp, _⟩ := parts_shape hls
    obtain ⟨b, o, rfl, hn⟩ := (HA.out.later HB1.out) hpos
    have h1 := hn (ns.length - 1) (by omega)
    obtain ⟨n, hnn⟩ : ∃ n, ns.getD (ns.length - 1) Node.zero = n := ⟨_, rfl⟩
    rw [hnn] at h1 hrp
    have k0 : w1.cell? ⟨b, o + (ns.length - 1) * 24, none⟩ = some (.int .i64 n.kind) := by
      have := nodeIn_of h1 0 _ rfl
      rwa [add_plain, Nat.add_zero] at this
    have i0 : (0 : Int) ≤ (ns.length : Int) - 1 := by omega
    have i1 : (ns.length : Int) - 1 < (ns.length : Int) := by omega
    have Hls := Lib.hid hls
    have Hpp := Lib.hid hpp
    have Hpos := Lib.hid hpos
    have Hrp := Lib.hid hrp
    clear hn h1 hnn hls hpp hrp hpos
    go_wp2_with fail
    refine (refarity_any _ _).mono ?_
    rintro e w2 ⟨rfl, rfl⟩
    obtain ⟨a, ha⟩ : ∃ x, arI n.kind = x := ⟨_, rfl⟩
    have hrp := Hrp.out
    rw [ha] at hrp ⊢
    clear ha Hrp
    by_cases ha0 : a = 0
    · subst ha0
      rw [if_pos rfl] at hrp
      have HP := Lib.hid hrp.symm
      clear hrp
      go_wp2_with fail
      go_ret2
      exact ⟨HB1.out, .inr (.inl ⟨HP.out, rfl⟩)⟩
    · rw [if_neg ha0] at hrp
      have h2 : 2 ≤ ns.length := by
        rw [Hls.out] at hrp
        by_cases ha1 : a = 1
        · rw [if_pos ha1] at hrp
          have := Hpp.out ((ns.take (ns.length - 1)).drop (begT ns (ns.length - 1) 1)) (by rw [← Option.some.inj hrp]; exact List.mem_cons_self ..)
          rw [List.length_drop, List.length_take] at this
          omega
        · rw [if_neg ha1] at hrp
          have := Hpp.out ((ns.take (ns.length - 1)).drop (begT ns (ns.length - 1) 1)) (by rw [← Option.some.inj hrp]; exact List.mem_cons_of_mem _ (List.mem_cons_self ..))
          rw [List.length_drop, List.length_take] at this
          omega
      have ha0' : (a == 0) = false := beq_eq_false_iff_ne.2 ha0
      have Hrp := Lib.hid hrp
      have eat : (ns.length : Int) - 2 = ((ns.length - 1 : Nat) : Int) - 1 := by omega
      have Heat := Lib.hid eat
      clear hrp ha0 eat
      go_wp2_with fail
      rw [Heat.out]
      refine (refbegin_any (some ⟨b, o, none⟩) c ns (ns.length - 1) _ (HA.out.later HB1.out) hnl (by omega)).mono ?_
      rintro e w3 ⟨rfl, hB3⟩
      obtain ⟨f, hf⟩ : ∃ x, begT ns (ns.length - 1) 1 = x := ⟨_, rfl⟩
      have hfl := begT_le ns (ns.length - 1) 1
      have hrp := Hrp.out
      rw [hf] at hfl hrp ⊢
      have HB3 := Lib.hid (HB1.out.trans (hB3.mono HB1.out.size))
      obtain ⟨p2, hp2⟩ : ∃ l, (ns.take (ns.length - 1)).drop f = l := ⟨_, rfl⟩
      have hl2 : p2.length = ns.length - 1 - f := by rw [← hp2, List.length_drop, List.length_take]; omega
      have hN2 : Ns w3 (some ⟨b, o + f * 24, none⟩) p2 := by
        have h := (HA.out.later HB3.out).prefix (ns.length - 1)
        have h3 : Ns w3 (some ⟨b, o, none⟩) ((ns.take (ns.length - 1)).take f ++ ((ns.take (ns.length - 1)).drop f ++ [])) := by rw [List.append_nil, List.take_append_drop]; exact h
        have := Ns.sub h3
        rw [hp2] at this
        rwa [List.length_take, List.length_take, show min f (min (ns.length - 1) ns.length) = f from by omega] at this
      rw [hp2] at hrp
      have Hrp2 := Lib.hid hrp
      have HN2 := Lib.hid (hN2.later ((Below.refl _ w3).alloc (Nat.le_refl _) (.cells (flat []).toArray 40)))
      have HN3 := Lib.hid (HA.out.later HB3.out)
      have Hl2 := Lib.hid hl2
      have i2 : (0 : Int) ≤ (f : Int) := by omega
      have i3 : (f : Int) ≤ (ns.length : Int) - 1 := by omega
      have i4 : (ns.length : Int) - 1 ≤ (c : Int) := by omega
      have i5 : (f : Int) ≤ (c : Int) := by omega
      have hm2 : ns.length - 1 - f = p2.length := hl2.symm
      have Hf := Lib.hid hfl
      clear hf hp2 hl2 hN2 hB3 hrp Hrp hfl hm2
      have hck : ¬ c = f := by omega
      go_upto_region 7 with fail
      go_upto_region 8 with (at_builtin; refine wpList_app rfl _ _ rfl w3.heap.size [] p2 w3.heap.size 0 0 rfl rfl (own_new w3 [] (by simp)) (some ⟨b, o + f * 24, none⟩) (ns.length - 1 - f) (c - f) rfl Hl2.out.symm HN2.out (by simp) (by rw [Hl2.out]; simp only [List.length_nil]; omega) (by simp) ?_; intro g5 cap5 w5 hown5 hB5 hgr5 hlt5)
      have hown5' : OwnN w5 w3.heap.size (.slice (some ⟨g5, 0, none⟩) p2.length cap5) p2 := by
        have h := hown5
        rw [Nat.zero_add, List.nil_append] at h
        rw [Hl2.out]
        exact h
      have HO5 := Lib.hid hown5'
      have HB5 := Lib.hid (HB3.out.trans ((((Below.refl _ w3).alloc (Nat.le_refl _) _).trans hB5).mono HB3.out.size))
      have Hs35 := Lib.hid (show w3.heap.size ≤ w5.heap.size from (((Below.refl _ w3).alloc (Nat.le_refl _) _).trans hB5).size)
      have H35 := Lib.hid (((Below.refl _ w3).alloc (Nat.le_refl _) _).trans hB5)
      have hrp := Hrp2.out
      clear hown5 hown5' hB5 hgr5 hlt5
      by_cases ha1 : a = 1
      · rw [if_pos ha1] at hrp
        subst ha1
        have HP := Lib.hid hrp.symm
        clear hrp
        go_wp2_with fail
        go_ret2
        have hfin : OwnNN (w5.alloc (.cells #[.slice (some ⟨g5, 0, none⟩) (ns.length - 1 - f) cap5] 22)) w.heap.size w5.heap.size [p2] [(g5, cap5)] := by
          rw [← Hl2.out]
          have hq := own_lt HO5.out (b := g5) rfl
          have hs := Hs35.out
          have hs3 := HB3.out.size
          refine ⟨rfl, by omega, ?_, ?_, ?_, ?_⟩
          · intro i hi
            obtain rfl : i = 0 := by simpa using hi
            rw [cell_of_row _ _ _ _ _ _ (heap_alloc_new w5 _)]
            rfl
          · intro i hi
            obtain rfl : i = 0 := by simpa using hi
            exact own_later (own_mono HO5.out hs3) fun b hb => Below.heap_alloc _ _ _ (own_lt HO5.out hb).2
          · intro i hi
            obtain rfl : i = 0 := by simpa using hi
            show g5 ≠ _
            omega
          · intro i j hi hj hne
            have : i = 0 := by simpa using hi
            have : j = 0 := by simpa using hj
            omega
        exact ⟨HB5.out.alloc HB5.out.size _, .inr (.inr ⟨[p2], HP.out, by simp, w5.heap.size, ⟨1, rfl⟩, _, hfin⟩)⟩
      · rw [if_neg ha1] at hrp
        have ha1' : (a == 1) = false := beq_eq_false_iff_ne.2 ha1
        have HP := Lib.hid hrp.symm
        obtain ⟨p1, hp1⟩ : ∃ l, ns.take f = l := ⟨_, rfl⟩
        have hl1 : p1.length = f := by rw [← hp1, List.length_take]; have := Hf.out; omega
        have hN1 : Ns w5 (some ⟨b, o, none⟩) p1 := by
          rw [← hp1]
          exact (HN3.out.later H35.out).prefix f
        have HN1 := Lib.hid (hN1.later ((Below.refl _ w5).alloc (Nat.le_refl _) (.cells (flat []).toArray 40)))
        have Hl1 := Lib.hid hl1
        rw [hp1] at hrp
        have HP := Lib.hid hrp.symm
        clear hrp ha1 hp1 hl1 hN1
        go_upto_region 10 with fail
        go_wp2_with (at_builtin; refine wpList_app rfl _ _ rfl w5.heap.size [] p1 w5.heap.size 0 0 rfl rfl (own_new w5 [] (by simp)) (some ⟨b, o, none⟩) f c rfl Hl1.out.symm HN1.out (by simp) (by rw [Hl1.out]; simp only [List.length_nil]; omega) (by simp) ?_; intro g6 cap6 w6 hown6 hB6 hgr6 hlt6)
        have hown6' : OwnN w6 w5.heap.size (.slice (some ⟨g6, 0, none⟩) p1.length cap6) p1 := by
          have h := hown6
          rw [Nat.zero_add, List.nil_append] at h
          rw [Hl1.out]
          exact h
        have hB56 : Below w5.heap.size w5 w6 := ((Below.refl _ w5).alloc (Nat.le_refl _) _).trans hB6
        have hfin : OwnNN (w6.alloc (.cells #[.slice (some ⟨g6, 0, none⟩) f cap6, .slice (some ⟨g5, 0, none⟩) (ns.length - 1 - f) cap5] 22)) w.heap.size w6.heap.size [p1, p2] [(g6, cap6), (g5, cap5)] := by
          rw [← Hl2.out]
          have hl1 := Hl1.out
          have hq := own_lt HO5.out (b := g5) rfl
          have hq6 := own_lt hown6' (b := g6) rfl
          have hs := Hs35.out
          have hs3 := HB3.out.size
          have hs6 := hB56.size
          refine ⟨rfl, by omega, ?_, ?_, ?_, ?_⟩
          · intro i hi
            rw [cell_of_row _ _ _ _ _ _ (heap_alloc_new w6 _)]
            have : i = 0 ∨ i = 1 := by have : i < 2 := hi; omega
            rcases this with rfl | rfl
            · simp [hl1]
            · rfl
          · intro i hi
            have : i = 0 ∨ i = 1 := by have : i < 2 := hi; omega
            rcases this with rfl | rfl
            · exact own_later (own_mono hown6' (by omega)) fun b hb => Below.heap_alloc _ _ _ (own_lt hown6' hb).2
            · refine own_later (own_mono (own_later (W := w6) HO5.out fun b hb => hB56.block b (own_lt HO5.out hb).2) hs3) fun b hb => Below.heap_alloc _ _ _ ?_
              have := (own_lt HO5.out hb).2
              omega
          · intro i hi
            have : i = 0 ∨ i = 1 := by have : i < 2 := hi; omega
            rcases this with rfl | rfl
            · show g6 ≠ _; omega
            · show g5 ≠ _; omega
          · intro i j hi hj hne
            have : i = 0 ∨ i = 1 := by have : i < 2 := hi; omega
            have : j = 0 ∨ j = 1 := by have : j < 2 := hj; omega
            have hh : g6 ≠ g5 := by omega
            rcases ‹i = 0 ∨ i = 1› with rfl | rfl <;> rcases ‹j = 0 ∨ j = 1› with rfl | rfl
            · exact absurd rfl hne
            · exact hh
            · exact hh.symm
            · exact absurd rfl hne
        have hB7 : Below w.heap.size w w6 := HB5.out.trans (hB56.mono HB5.out.size)
        have Hfin := Lib.hid hfin
        have HB7 := Lib.hid hB7
        clear hown6 hown6' hB56 hB6 hgr6 hlt6 hfin hB7
        go_ret2
        exact ⟨HB7.out.alloc HB7.out.size _, .inr (.inr ⟨_, w6.heap.size, 2, _, HP.out, by simp, rfl, Hfin.out⟩)⟩
end Go.Proofs.Ytedhlofmkehfkaa
