/- (*types.walk).add: one node more. -/
import Derived.Test.YtedhlofmkehfkaaSpec
namespace Go.Proofs.Ytedhlofmkehfkaa
open Go.RowKit Go.Shelf
set_option linter.unusedVariables false
set_option linter.unusedSimpArgs false

set_option maxRecDepth 100000 in
set_option maxHeartbeats 3200000 in
theorem add_none (r hi kb : Nat) (n : Node) (st : List Int) (ps : List Part) (w : World) (hW : WalkAt r hi kb st ps w) (hk : arityK n.kind = none) :
    Calls Try.prog 37 #[.pointer (some ⟨kb, 0, none⟩), .agg (enc n)] w fun e w' => e = .returned (.int .i64 120) ∧ Below kb w w' := by
  obtain ⟨vs, vp, hR⟩ := hW.row
  have c0 : w.cell? ⟨kb, 0, none⟩ = some (.map (some r)) := by rw [cell_of_row w kb 0 _ _ _ hR.row]; rfl
  have lk := World.block_lt_of_cell? w _ c0
  have hkr := arityK_none hk
  have hL : ∀ W, Below w.heap.size w W → (Instr.lookup 56 (.map (some r)) (.int .i64 n.kind) true).run Try.prog W = .ok (.tuple #[.agg #[.bool false, .bool false, .nilFunc, .nilFunc, .nilFunc], .bool false]) W :=
    fun W hb => (hW.tab.below hb (by have := hW.le; simp at lk; omega)).look_none hkr _ (fun W => Try.zeroValue64 W)
  have hT := Lib.hid hW.tab
  have hRow := Lib.hid hR
  clear hW hR
  go_enter Try.func37, Try.ntmps37
  go_upto_region 1 with fail
  go_cut [5, 6] (fun s5 s6 W => ∃ p, s5 = .pointer (some ⟨p, 0, none⟩) ∧ s6 = .bool false ∧ AtRow w w.heap.size p n false false .nilFunc .nilFunc .nilFunc W)
  case first =>
    go_region_held3 (fun w' => w'.cell? ⟨kb, 0, none⟩ = some (.map (some r)) ∧ Below w.heap.size w w' ∧ w'.heap[w.heap.size]? = some (.cells (enc n) 40 (0, 0)) ∧ w'.cell? ⟨w.heap.size, 0, none⟩ = some (.int .i64 n.kind) ∧ w.heap.size < w'.heap.size ∧ (Instr.lookup 56 (.map (some r)) (.int .i64 n.kind) true).run Try.prog w' = .ok (.tuple #[.agg #[.bool false, .bool false, .nilFunc, .nilFunc, .nilFunc], .bool false]) w')
      (first
        | exact look_start c0 hL
        | exact look_later hL (by assumption) ((Below.refl _ _).alloc (Nat.le_refl _) _)
        | exact look_later hL (look_start c0 hL) (below_put _ _)
        | assumption)
      (fail)
    all_goals
      go_wp2_with fail
      go_meet
      exact ⟨_, rfl, rfl, atRow_new⟩
  case rest =>
    obtain ⟨p, rfl, rfl, F⟩ := hcut
    obtain ⟨sA, sc, rfl, -⟩ := hRow.out.st.form
    have M := Mid.start (hi := hi) hRow.out F
    have hk0 : wc.cell? ⟨kb, 0, none⟩ = some (.map (some r)) := by rw [cell_of_row wc kb 0 _ _ _ M.wr.row]; rfl
    have hk1 : wc.cell? ⟨kb, 1, none⟩ = some (.slice sA st.length sc) := by rw [cell_of_row wc kb 1 _ _ _ M.wr.row]; rfl
    have hf1 : wc.frozen? ⟨kb, 1, none⟩ = false := frozen_of_row wc kb 1 _ _ M.wr.row
    have hn0 : wc.cell? ⟨w.heap.size, 0, none⟩ = some (.int .i64 n.kind) := by rw [cell_of_row wc _ 0 _ _ _ M.node]; rfl
    have HM := Lib.hid M
    clear F M
    go_wp2_with fail
    refine (arity_any _ _).mono ?_
    rw [hk]
    rintro e w2 ⟨rfl, rfl⟩
    go_wp2_with fail
    go_ret
    exact ⟨rfl, HM.out.below⟩
set_option maxRecDepth 100000 in
set_option maxHeartbeats 3200000 in
theorem add_some (r hi kb a : Nat) (n : Node) (st : List Int) (ps : List Part) (w : World) (hW : WalkAt r hi kb st ps w) (hk : arityK n.kind = some a) (hn : st.length + 1 ≤ 2000000000000) (hnb : n.bytes) (hnu : isU32 n.n) :
    Calls Try.prog 37 #[.pointer (some ⟨kb, 0, none⟩), .agg (enc n)] w fun e w' => e = .returned (.int .i64 (stepT n st ps).1) ∧ Below kb w w' ∧ ((stepT n st ps).1 = 0 → WalkAt r hi kb (stepT n st ps).2.1 (stepT n st ps).2.2 w') := by
  obtain ⟨vs, vp, hR⟩ := hW.row
  have c0 : w.cell? ⟨kb, 0, none⟩ = some (.map (some r)) := by rw [cell_of_row w kb 0 _ _ _ hR.row]; rfl
  have lk := World.block_lt_of_cell? w _ c0
  have hkr := arityK_range hk
  have hlt := hW.tab.lt
  have hsz := hW.tab.size
  have hle0 := hW.le
  simp at lk
  obtain ⟨es, e1, e2, e3⟩ := hW.tab.out
  obtain ⟨v, hv⟩ := lookE_some e2 hkr.1 hkr.2.1
  have hm := e3 _ (lookE_mem hv)
  obtain ⟨u, f, g, he, q1, q2, q3⟩ := hm.out
  simp only at he
  subst he
  obtain ⟨fu, cu, rfl, hfu⟩ := q1
  obtain ⟨ff, cf, rfl, hff⟩ := q2
  obtain ⟨fg, cg, rfl, hfg⟩ := q3
  have hL : ∀ W, Below w.heap.size w W → (Instr.lookup 56 (.map (some r)) (.int .i64 n.kind) true).run Try.prog W = .ok (.tuple #[.agg #[.bool (truthK n.kind), .bool (wantsK n.kind), .func (.func fu) #[] cu, .func (.func ff) #[] cf, .func (.func fg) #[] cg], .bool true]) W := by
    intro W hb
    have := run_lookup_int (P := Try.prog) W _ _ _ Try.underlying56 Try.underlying3 _ (fun W => Try.zeroValue64 W) r es (e1.congr (hb.block r (by omega))) n.kind true
    rw [hv] at this
    simpa using this
  have hT := Lib.hid hW.tab
  have hst := Lib.hid hW.starts
  have hlen := Lib.hid hW.len
  have hps := Lib.hid hW.u32
  have hRow := Lib.hid hR
  have Hfu := Lib.hid hfu
  have Hff := Lib.hid hff
  have hle := Lib.hid hW.le
  clear hW hm hR hfu hff hfg e1 e2 e3 hv
  obtain ⟨tr, htr⟩ : ∃ b, truthK n.kind = b := ⟨_, rfl⟩
  obtain ⟨wa, hwa⟩ : ∃ b, wantsK n.kind = b := ⟨_, rfl⟩
  rw [htr, hwa] at hL
  have Htr := Lib.hid htr
  have Hwa := Lib.hid hwa
  clear htr hwa
  go_enter Try.func37, Try.ntmps37
  go_upto_region 1 with fail
  go_cut [5, 6] (fun s5 s6 W => ∃ p, s5 = .pointer (some ⟨p, 0, none⟩) ∧ s6 = .bool true ∧ AtRow w w.heap.size p n tr wa (.func (.func fu) #[] cu) (.func (.func ff) #[] cf) (.func (.func fg) #[] cg) W)
  case first =>
    go_region_held3 (fun w' => w'.cell? ⟨kb, 0, none⟩ = some (.map (some r)) ∧ Below w.heap.size w w' ∧ w'.heap[w.heap.size]? = some (.cells (enc n) 40 (0, 0)) ∧ w'.cell? ⟨w.heap.size, 0, none⟩ = some (.int .i64 n.kind) ∧ w.heap.size < w'.heap.size ∧ (Instr.lookup 56 (.map (some r)) (.int .i64 n.kind) true).run Try.prog w' = .ok (.tuple #[.agg #[.bool tr, .bool wa, .func (.func fu) #[] cu, .func (.func ff) #[] cf, .func (.func fg) #[] cg], .bool true]) w')
      (first
        | exact look_start c0 hL
        | exact look_later hL (by assumption) ((Below.refl _ _).alloc (Nat.le_refl _) _)
        | exact look_later hL (look_start c0 hL) (below_put _ _)
        | assumption)
      (fail)
    all_goals
      go_wp2_with fail
      go_meet
      exact ⟨_, rfl, rfl, atRow_new⟩
  case rest =>
    obtain ⟨p, rfl, rfl, F⟩ := hcut
    obtain ⟨sA, sc, rfl, -⟩ := hRow.out.st.form
    have M := Mid.start (hi := hi) hRow.out F
    have hk0 : wc.cell? ⟨kb, 0, none⟩ = some (.map (some r)) := by rw [cell_of_row wc kb 0 _ _ _ M.wr.row]; rfl
    have hk1 : wc.cell? ⟨kb, 1, none⟩ = some (.slice sA st.length sc) := by rw [cell_of_row wc kb 1 _ _ _ M.wr.row]; rfl
    have hf1 : wc.frozen? ⟨kb, 1, none⟩ = false := frozen_of_row wc kb 1 _ _ M.wr.row
    have hn0 : wc.cell? ⟨w.heap.size, 0, none⟩ = some (.int .i64 n.kind) := by rw [cell_of_row wc _ 0 _ _ _ M.node]; rfl
    have HM := Lib.hid M
    clear F M
    have hLc := Lib.hid hL
    clear hL
    go_wp2_with fail
    refine (arity_any _ _).mono ?_
    rw [hk]
    rintro e w2 ⟨rfl, rfl⟩
    go_wp2_with fail
    cases hadd : addL st a with
    | none =>
      have hres : stepT n st ps = (120, st, ps) := by simp [stepT, hk, hadd]
      refine (add_no (kb + 1) _ st a _ HM.out.wr.st hst.out hkr.2.2 (by omega) hadd).mono ?_
      rintro e w2 ⟨rfl, rfl⟩
      go_wp2_with fail
      go_ret
      rw [hres]
      exact ⟨rfl, HM.out.below.setCell (Nat.le_refl _) _, fun h => by cases h⟩
    | some st2 =>
      refine (add_yes (kb + 1) _ st st2 a _ HM.out.wr.st hst.out hkr.2.2 (by omega) (by have := (Array.getElem?_eq_some_iff.1 HM.out.wr.row).1; omega) hadd).mono ?_
      rintro e w2 ⟨v2, rfl, hown, hgrow, hob, hst2⟩
      have M2 := HM.out.starts hown hgrow hob
      obtain ⟨gk, gn, gp⟩ := HM.out.grown hgrow
      obtain ⟨A2, c2, rfl, -⟩ := hown.form
      have hk1 : w2.cell? ⟨kb, 1, none⟩ = some (.slice sA st.length sc) := by rw [cell_of_row w2 kb 1 _ _ _ gk]; rfl
      have hf1 : w2.frozen? ⟨kb, 1, none⟩ = false := frozen_of_row w2 kb 1 _ _ gk
      have hp2 : w2.cell? ⟨p, 2, none⟩ = some (.func (.func fu) #[] cu) := by rw [cell_of_row w2 p 2 _ _ _ gp]; rfl
      have hn2 : nodeAt w2 ⟨w.heap.size, 0, none⟩ = some n := nodeAt_row gn
      have hkn := HM.out.kN
      have hnp := HM.out.Np
      have hpk : p ≠ kb := by omega
      have hM2 := Lib.hid M2
      clear M2 hown hgrow hob gk gn gp HM hk0 hn0 c0
      have hn3 : nodeAt (w2.setCell ⟨kb, 1, none⟩ (.slice A2 st2.length c2)) ⟨w.heap.size, 0, none⟩ = some n := nodeAt_row hM2.out.node
      have hag : AgreeOn (r + 1) hi w (w2.setCell ⟨kb, 1, none⟩ (.slice A2 st2.length c2)) := AgreeOn.below hM2.out.below hle0 hsz
      have HC := Hfu.out.2 _ hag n
      have he := Hfu.out.1
      unfold Enters at he
      go_wp2_with fail
      refine HC.mono ?_
      rintro e w3 ⟨rfl, hB3⟩
      have M3 := hM2.out.later hB3
      clear hn3 hag HC hk1 hf1 hp2 hn2 hM2 hB3 he
      cases hun : unusedB n.kind n with
      | false =>
        have hres : stepT n st ps = (120, st, ps) := by simp [stepT, hk, hadd, hun]
        have HB := Lib.hid M3.below
        clear M3
        go_wp2_with fail
        go_ret
        rw [hres]
        exact ⟨rfl, HB.out, fun h => by cases h⟩
      | true =>
        have hk1 : w3.cell? ⟨kb, 1, none⟩ = some (.slice A2 st2.length c2) := by rw [cell_of_row w3 kb 1 _ _ _ M3.wr.row]; rfl
        obtain ⟨q0, hq0, rfl⟩ : ∃ q, downs st a st.length = some q ∧ st ++ [q] = st2 := by simpa [addL] using hadd
        have hl2 : (st ++ [q0]).length = st.length + 1 := by simp
        rw [hl2] at hk1
        have HM3 := Lib.hid M3
        clear M3
        go_upto_block 0 with fail
        go_cut [10] (fun s10 W => ∃ A c q, s10 = .slice A (kidsL a st ps).length c ∧ (0 < (kidsL a st ps).length → A = some ⟨q, 0, none⟩) ∧ KidsAt W q (kidsL a st ps) ∧ Mid r hi kb w.heap.size p n tr wa (.func (.func fu) #[] cu) (.func (.func ff) #[] cf) (.func (.func fg) #[] cg) (st ++ [q0]) ps (.slice A2 (st ++ [q0]).length c2) vp w W)
        case first =>
          have h012 : a = 0 ∨ a = 1 ∨ a = 2 := by have := hkr.2.2; omega
          obtain ⟨B, cp, rfl, hB⟩ := ownP_form HM3.out.wr.ps
          have hk2 : w3.cell? ⟨kb, 2, none⟩ = some (.slice B ps.length cp) := by rw [cell_of_row w3 kb 2 _ _ _ HM3.out.wr.row]; rfl
          rcases h012 with rfl | rfl | rfl
          · go_wp2_with fail
            go_meet
            exact ⟨none, 0, 0, rfl, (fun h => by simp [kidsL] at h), (fun i hi => by simp [kidsL] at hi), HM3.out⟩
          · have hpos : 0 < st.length := by
              rcases Nat.eq_zero_or_pos st.length with h | h
              · simp [downs, h] at hq0
              · exact h
            have hlp := hlen.out
            obtain ⟨gp, rfl, hgp, hcell⟩ := hB (by omega)
            have d0 := hcell (st.length - 1) (by omega) 0 _ rfl
            have d1 := hcell (st.length - 1) (by omega) 1 _ rfl
            have d2 := hcell (st.length - 1) (by omega) 2 _ rfl
            obtain ⟨P, hP⟩ : ∃ P, ps.getD (st.length - 1) Part.zero = P := ⟨_, rfl⟩
            rw [hP] at d0 d1 d2
            rw [Nat.add_zero] at d0
            have hP' := Lib.hid hP
            have i0 : (0 : Int) ≤ (st.length : Int) - 1 := by omega
            have i1 : (st.length : Int) - 1 < (ps.length : Int) := by omega
            have i2 : (st.length : Int) ≤ (ps.length : Int) := by omega
            have i3 : (1 : Int) ≤ (st.length : Int) := by omega
            have i4 : (0 : Int) < (st.length : Int) := by omega
            have i5 : st.length ≤ ps.length := by omega
            have lg := World.block_lt_of_cell? w3 _ d0
            have lk3 := World.block_lt_of_cell? w3 _ hk1
            clear hcell hB hq0 hP hlp
            go_upto_region 11 with fail
            go_region_held3 (fun w' => w'.cell? ⟨kb, 1, none⟩ = some (.slice A2 (st.length + 1) c2) ∧ w'.cell? ⟨kb, 2, none⟩ = some (.slice (some ⟨gp, 0, none⟩) ps.length cp) ∧ w'.cell? ⟨gp, (st.length - 1) * 3, none⟩ = some (.bool P.truth) ∧ w'.cell? ⟨gp, (st.length - 1) * 3 + 1, none⟩ = some (.bool P.constant) ∧ w'.cell? ⟨gp, (st.length - 1) * 3 + 2, none⟩ = some (.int .u32 P.value) ∧ Below w3.heap.size w3 w')
              (first | exact ⟨hk1, hk2, d0, d1, d2, (Below.refl _ _).drew⟩ | exact keep5 (W := w3.drew) ⟨hk1, hk2, d0, d1, d2, (Below.refl w3.heap.size w3).drew⟩ (below_put _ _))
              ((go_at_call 76; refine (right_any _ _ _ (by omega) (by omega)).mono ?_; rintro e w4 ⟨rfl, rfl⟩))
            all_goals
              go_wp2_with fail
              go_meet
              refine ⟨some ⟨w3.heap.size, 0, none⟩, 1, w3.heap.size, rfl, fun _ => rfl, ?_, HM3.out.later (((Below.refl w3.heap.size w3).alloc (Nat.le_refl _) _).drew)⟩
              rw [show kidsL 1 st ps = [P] from by rw [← hP'.out]; rfl]
              exact kids_new1 _ _
          · have hpos : 0 < st.length := by
              rcases Nat.eq_zero_or_pos st.length with h | h
              · simp [downs, h] at hq0
              · exact h
            have hlp := hlen.out
            obtain ⟨gp, rfl, hgp, hcell⟩ := hB (by omega)
            obtain ⟨m, hm, hms⟩ : ∃ m : Nat, st.getD (st.length - 1) 0 = (m : Int) + 1 ∧ m < st.length - 1 := by
              have h1 := hst.out (st.length - 1) (by omega)
              have h2 : st.getD (st.length - 1) 0 ≠ 0 := by
                intro h
                have hz : ¬ ((st.length : Int) = 0) := by omega
                simp only [downs, if_neg hz, Int.toNat_natCast, h, if_true] at hq0
                cases hq0
              exact ⟨(st.getD (st.length - 1) 0 - 1).toNat, by omega, by omega⟩
            have d0 := hcell (st.length - 1) (by omega) 0 _ rfl
            have d1 := hcell (st.length - 1) (by omega) 1 _ rfl
            have d2 := hcell (st.length - 1) (by omega) 2 _ rfl
            have f0 := hcell m (by omega) 0 _ rfl
            have f1 := hcell m (by omega) 1 _ rfl
            have f2 := hcell m (by omega) 2 _ rfl
            have hkids : kidsL 2 st ps = [ps.getD m Part.zero, ps.getD (st.length - 1) Part.zero] := by
              unfold kidsL
              rw [hm]
              simp
            obtain ⟨P, hP⟩ : ∃ P, ps.getD (st.length - 1) Part.zero = P := ⟨_, rfl⟩
            obtain ⟨Q, hQ⟩ : ∃ Q, ps.getD m Part.zero = Q := ⟨_, rfl⟩
            rw [hP] at d0 d1 d2
            rw [hQ] at f0 f1 f2
            rw [hP, hQ] at hkids
            rw [Nat.add_zero] at d0 f0
            have hKids := Lib.hid hkids
            obtain ⟨A3, c3, e3, h3⟩ := HM3.out.wr.st.form
            obtain ⟨g3, hg3, _, hc3⟩ := h3 (by simp)
            simp only [Value.slice.injEq] at e3
            obtain ⟨rfl, -, rfl⟩ := e3
            subst hg3
            have hl3 : ∀ W, Below w3.heap.size w3 W → Calls Try.prog 35 #[.slice (some ⟨g3, 0, none⟩) (st.length + 1) c2, .int .i64 (st.length : Int)] W fun e w' => e = .returned (.int .i64 (m : Int)) ∧ W = w' := by
              intro W hW
              have hgd : (st ++ [q0]).getD ((st.length : Int).toNat - 1) 0 = (m : Int) + 1 := by
                rw [← hm, Int.toNat_natCast]
                simp [List.getD_eq_getElem?_getD, List.getElem?_append_left (show st.length - 1 < st.length by omega)]
              have := left_any (some ⟨g3, 0, none⟩) (st.length + 1) c2 g3 (st ++ [q0]) (st.length : Int) W rfl (fun j hj => (hW.cell (World.block_lt_of_cell? w3 _ (hc3 j hj))).trans (hc3 j hj)) (by simp) (by omega) (by simp; omega) (by rw [hgd]; omega) (by rw [hgd]; omega) (by omega)
              rw [hgd, Int.add_sub_cancel] at this
              exact this
            have HL3 := Lib.hid hl3
            have i0 : (0 : Int) ≤ (st.length : Int) - 1 := by omega
            have i1 : (st.length : Int) - 1 < (ps.length : Int) := by omega
            have i2 : (st.length : Int) ≤ (ps.length : Int) := by omega
            have i3 : (1 : Int) ≤ (st.length : Int) := by omega
            have i4 : (0 : Int) < (st.length : Int) := by omega
            have i5 : st.length ≤ ps.length := by omega
            have j0 : (0 : Int) ≤ (m : Int) := by omega
            have j1 : (m : Int) < (ps.length : Int) := by omega
            have lg := World.block_lt_of_cell? w3 _ d0
            have lk3 := World.block_lt_of_cell? w3 _ hk1
            clear hcell hB hq0 hP hQ hkids h3 hc3 hl3 hm hlp
            go_upto_region 13 with fail
            go_region_held3 (fun w' => w'.cell? ⟨kb, 1, none⟩ = some (.slice (some ⟨g3, 0, none⟩) (st.length + 1) c2) ∧ w'.cell? ⟨kb, 2, none⟩ = some (.slice (some ⟨gp, 0, none⟩) ps.length cp) ∧ w'.cell? ⟨gp, (st.length - 1) * 3, none⟩ = some (.bool P.truth) ∧ w'.cell? ⟨gp, (st.length - 1) * 3 + 1, none⟩ = some (.bool P.constant) ∧ w'.cell? ⟨gp, (st.length - 1) * 3 + 2, none⟩ = some (.int .u32 P.value) ∧
                w'.cell? ⟨gp, m * 3, none⟩ = some (.bool Q.truth) ∧ w'.cell? ⟨gp, m * 3 + 1, none⟩ = some (.bool Q.constant) ∧ w'.cell? ⟨gp, m * 3 + 2, none⟩ = some (.int .u32 Q.value) ∧ Below w3.heap.size w3 w')
              (first | exact ⟨hk1, hk2, d0, d1, d2, f0, f1, f2, (Below.refl _ _).drew⟩ | exact keep8 (W := w3.drew) ⟨hk1, hk2, d0, d1, d2, f0, f1, f2, (Below.refl w3.heap.size w3).drew⟩ (below_put _ _))
              (first | (go_at_call 76; refine (right_any _ _ _ (by omega) (by omega)).mono ?_; rintro e w4 ⟨rfl, rfl⟩) | (go_at_call 35; refine (HL3.out _ (last9 (by assumption))).mono ?_; rintro e w4 ⟨rfl, rfl⟩))
            all_goals
              go_wp2_with fail
              go_meet
              refine ⟨some ⟨w3.heap.size, 0, none⟩, 2, w3.heap.size, by rw [hKids.out]; rfl, fun _ => rfl, ?_, HM3.out.later (((Below.refl w3.heap.size w3).alloc (Nat.le_refl _) _).drew)⟩
              rw [hKids.out]
              exact kids_new2 _ _ _
        case rest =>
          obtain ⟨A, c, q, rfl, hA, hKids, M4⟩ := hcut
          have hlk : (kidsL a st ps).length ≤ 2 := by unfold kidsL; split; · simp
                                                      · split <;> simp
          have hku : ∀ x ∈ kidsL a st ps, isU32 x.value := kids_u32 hps.out
          have hk5 : n.kind = 5 → 1 ≤ (kidsL a st ps).length := fun h => by
            rw [h] at hk
            simp [arityK] at hk
            subst hk
            simp [kidsL]
          have hk4 : n.kind = 4 → 2 ≤ (kidsL a st ps).length := fun h => by
            rw [h] at hk
            simp [arityK] at hk
            subst hk
            simp [kidsL]
          have HMade := made_any n tr wa (.func (.func fu) #[] cu) (.func (.func ff) #[] cf) (.func (.func fg) #[] cg) A c q (kidsL a st ps) wc hA hKids rfl rfl rfl hlk hku hk5 hk4
          obtain ⟨code, hcode⟩ : ∃ x, (madeL n tr wa (kidsL a st ps)).2 = x := ⟨_, rfl⟩
          obtain ⟨P, hP⟩ : ∃ x, (madeL n tr wa (kidsL a st ps)).1 = x := ⟨_, rfl⟩
          rw [hcode, hP] at HMade
          obtain ⟨len, hlenk⟩ : ∃ x, (kidsL a st ps).length = x := ⟨_, rfl⟩
          rw [hlenk] at HMade ⊢
          have Hcode := Lib.hid hcode
          have HP := Lib.hid hP
          obtain ⟨B, cp, rfl, -⟩ := ownP_form M4.wr.ps
          have p0 : wc.cell? ⟨p, 0, none⟩ = some (.bool tr) := by rw [cell_of_row wc p 0 _ _ _ M4.row]; rfl
          have p1 : wc.cell? ⟨p, 1, none⟩ = some (.bool wa) := by rw [cell_of_row wc p 1 _ _ _ M4.row]; rfl
          have p2 : wc.cell? ⟨p, 2, none⟩ = some (.func (.func fu) #[] cu) := by rw [cell_of_row wc p 2 _ _ _ M4.row]; rfl
          have p3 : wc.cell? ⟨p, 3, none⟩ = some (.func (.func ff) #[] cf) := by rw [cell_of_row wc p 3 _ _ _ M4.row]; rfl
          have p4 : wc.cell? ⟨p, 4, none⟩ = some (.func (.func fg) #[] cg) := by rw [cell_of_row wc p 4 _ _ _ M4.row]; rfl
          have n4 : nodeAt wc ⟨w.heap.size, 0, none⟩ = some n := nodeAt_row M4.node
          have HM4 := Lib.hid M4
          have HMd := Lib.hid HMade
          clear M4 hA hKids hlk hku hk5 hk4 hcode hP hlenk HMade
          go_wp2_with fail
          refine HMd.out.mono ?_
          rintro e w5 ⟨rfl, hB5⟩
          have M5 := HM4.out.later hB5
          have k2 : w5.cell? ⟨kb, 2, none⟩ = some (.slice B ps.length cp) := by rw [cell_of_row w5 kb 2 _ _ _ M5.wr.row]; rfl
          have k2f : w5.frozen? ⟨kb, 2, none⟩ = false := frozen_of_row w5 kb 2 _ _ M5.wr.row
          have k2l := World.block_lt_of_cell? w5 _ k2
          have HM5 := Lib.hid M5
          clear M5 p0 p1 p2 p3 p4 n4 HMd
          obtain ⟨i0, hi0, hz0, hz1, hz2⟩ := info_parts (show (Try.prog.info? 55).map (fun i => (i.zero, i.size, i.bytes)) = some (some (.agg #[.bool false, .bool false, .int .u32 0]), 3, 8) by kernel_rfl)
          go_upto_region 15 with fail
          have hown5 : w5.ownsRow (kb + 1) 55 3 (.slice B ps.length cp) ps.length (ps.flatMap partL) := HM5.out.wr.ps
          have hneK : some kb ≠ (Value.slice B ps.length cp).ownBlock := fun e => by have := (own_lt hown5 e.symm).1; omega
          have hneD : some w5.heap.size ≠ (Value.slice B ps.length cp).ownBlock := fun e => by have := (own_lt hown5 e.symm).2; omega
          have hpl : ps.length + 1 ≤ 2000000000000 := by have := hlen.out; omega
          go_cut [12] (fun s12 W => s12 = .int .i64 code ∧ ∃ vp2, Mid r hi kb w.heap.size p n tr wa (.func (.func fu) #[] cu) (.func (.func ff) #[] cf) (.func (.func fg) #[] cg) (st ++ [q0]) (ps ++ [P]) (.slice A2 (st ++ [q0]).length c2) vp2 w W)
          case first =>
            go_region_law (refine step_append_lies _ (by rfl) _ _ _ (by rfl) (kb + 1) 55 i0 _ 3 8 Try.underlying59 hi0 hz0 hz1 hz2 rfl (by omega) (.slice B ps.length cp) ps.length (ps.flatMap partL) (by rfl) (((hown5.alloc _).alloc _).drew) ⟨w5.heap.size + 1, 0, none⟩ 1 1 [.bool P.truth, .bool P.constant, .int .u32 P.value] (by rfl) (by rfl) (World.news_of_block (cs := #[.bool P.truth, .bool P.constant, .int .u32 P.value]) (t := 55) (fr := (0, 0)) (heap_alloc2_new _ _ _)) (Part.enc1 P) (by omega) (by simp only [maxLen]; omega) (by omega) (by simp; omega) (w5.heap.size + 2) (by simp) ?_; intro gg cap w6 hown6 hgrow hat hlt6; have c6 : w6.cell? ⟨kb, 2, none⟩ = some (.slice B ps.length cp) := (hgrow.cell_far ⟨kb, 2, none⟩ (by simp; omega) hneK).trans (keep_k2 k2); have f6 : w6.frozen? ⟨kb, 2, none⟩ = false := (hgrow.frozen_far ⟨kb, 2, none⟩ (by simp; omega) hneK).trans (keep_f2 k2 k2f))
            all_goals
              go_wp2_with fail
              go_meet
              refine ⟨rfl, _, Mid.parts (HM5.out.later ((((Below.refl w5.heap.size w5).alloc (Nat.le_refl _) _).alloc (by simp) _).drew)) ?_ hgrow (hat.imp (fun h => h.symm) fun h => ⟨gg, rfl, by rw [h]; show (World.alloc _ _).heap.size ≤ _; simp⟩)⟩
              simpa [OwnP, partL] using hown6
          case rest =>
            obtain ⟨rfl, vp2, M6⟩ := hcut
            have hnz : wc.cell? ⟨w.heap.size, 0, none⟩ = some (.int .i64 n.kind) := by rw [cell_of_row wc _ 0 _ _ _ M6.node]; rfl
            have p3 : wc.cell? ⟨p, 3, none⟩ = some (.func (.func ff) #[] cf) := by rw [cell_of_row wc p 3 _ _ _ M6.row]; rfl
            have n6 : nodeAt wc ⟨w.heap.size, 0, none⟩ = some n := nodeAt_row M6.node
            have hag6 : AgreeOn (r + 1) hi w wc := AgreeOn.below M6.below hle0 hsz
            have HC6 := Hff.out.2 _ hag6 n
            have he6 := Hff.out.1
            unfold Enters at he6
            have HM6 := Lib.hid M6
            have hH6 := Lib.hid HM5
            have hres : stepT n st ps = if code ≠ 0 then (code, st, ps) else if fitsB n.kind n = false then (124, st, ps) else if n.kind = 15 ∧ wholeB n = false then (125, st, ps) else (0, st ++ [q0], ps ++ [P]) := by
              simp only [stepT, hk, hadd, hun, Htr.out, Hwa.out, Hcode.out, HP.out]
              simp
            have Hres := Lib.hid hres
            clear M6 hag6 hown5 hneK hneD HM5 k2 k2f k2l hi0 hz0 hz1 hz2 hpl hB5 hres
            by_cases hc0 : code = 0
            · subst hc0
              go_wp2_with fail
              refine HC6.mono ?_
              rintro e w7 ⟨rfl, hB7⟩
              have M7 := HM6.out.later hB7
              have n7 : nodeAt w7 ⟨w.heap.size, 0, none⟩ = some n := nodeAt_row M7.node
              have hz7 : w7.cell? ⟨w.heap.size, 0, none⟩ = some (.int .i64 n.kind) := by rw [cell_of_row w7 _ 0 _ _ _ M7.node]; rfl
              have HM7 := Lib.hid M7
              clear M7 HC6 hB7 hnz p3 n6
              cases hfit : fitsB n.kind n with
              | false =>
                have hr2 := Hres.out
                simp only [hfit, ne_eq, not_true, if_false, if_true] at hr2
                have Hr2 := Lib.hid hr2
                clear hr2
                go_wp2_with fail
                go_ret
                rw [Hr2.out]
                exact ⟨rfl, HM7.out.below, fun h => by cases h⟩
              | true =>
                have hdone : ∀ W, Below w7.heap.size w7 W → WalkAt r hi kb (st ++ [q0]) (ps ++ [P]) W := fun W hW => by
                  have M8 := HM7.out.later hW
                  refine ⟨hT.out.below M8.below hle0, hle0, ⟨_, _, M8.wr⟩, hst2, by simp [hlen.out], fun x hx => ?_⟩
                  rcases List.mem_append.1 hx with hx | hx
                  · exact hps.out x hx
                  · obtain rfl := List.mem_singleton.1 hx
                    rw [← HP.out]
                    exact made_u32 (kids_u32 hps.out) hnu
                have Hdone := Lib.hid hdone
                clear hdone
                by_cases h15 : n.kind = 15
                · have hb15 : (n.kind == 15) = true := by simp [h15]
                  have hbits : bitsB n = true := by
                    rw [h15] at hfit
                    simpa [fitsB] using hfit
                  have hbits2 : 0 ≤ n.bits ∧ n.bits ≤ 8 * widthI n := by simpa [bitsB, inR] using hbits
                  have Hwhole := whole_any n hnb hbits2.1 hbits2.2 w7
                  have hr2 := Hres.out
                  simp only [hfit, ne_eq, not_true, if_false, Bool.true_eq_false] at hr2
                  simp only [h15, true_and] at hr2
                  clear h15 hfit hbits hbits2
                  cases hwh : wholeB n with
                  | false =>
                    rw [hwh] at Hwhole hr2
                    simp only [if_true] at hr2
                    have Hr2 := Lib.hid hr2
                    have HWh := Lib.hid Hwhole
                    clear hr2 Hwhole
                    go_wp2_with fail
                    refine HWh.out.mono ?_
                    rintro e w8 ⟨rfl, hB8⟩
                    have HB8 := Lib.hid hB8
                    clear hB8
                    go_wp2_with fail
                    go_ret
                    rw [Hr2.out]
                    exact ⟨rfl, (HM7.out.later HB8.out).below, fun h => by cases h⟩
                  | true =>
                    rw [hwh] at Hwhole hr2
                    simp only [Bool.true_eq_false, if_false] at hr2
                    have Hr2 := Lib.hid hr2
                    have HWh := Lib.hid Hwhole
                    clear hr2 Hwhole
                    go_wp2_with fail
                    refine HWh.out.mono ?_
                    rintro e w8 ⟨rfl, hB8⟩
                    have HB8 := Lib.hid hB8
                    clear hB8
                    go_wp2_with fail
                    go_ret
                    rw [Hr2.out]
                    exact ⟨rfl, (HM7.out.later HB8.out).below, fun _ => Hdone.out _ HB8.out⟩
                · have hb15 : (n.kind == 15) = false := by simp [h15]
                  have hr2 := Hres.out
                  simp only [hfit, h15, ne_eq, not_true, if_false, false_and, Bool.true_eq_false] at hr2
                  have Hr2 := Lib.hid hr2
                  clear hr2 hfit
                  go_wp2_with fail
                  go_ret
                  rw [Hr2.out]
                  exact ⟨rfl, HM7.out.below, fun _ => Hdone.out _ (Below.refl _ _)⟩
            · have hr2 := Hres.out
              simp only [ne_eq, hc0, not_false_eq_true, if_true] at hr2
              have Hr2 := Lib.hid hr2
              have hcb : (code == 0) = false := by simp [hc0]
              clear hr2
              go_wp2_with fail
              go_ret
              rw [Hr2.out]
              exact ⟨rfl, HM6.out.below, fun h => absurd h hc0⟩
theorem add_any (r hi kb : Nat) (n : Node) (st : List Int) (ps : List Part) (w : World) (hW : WalkAt r hi kb st ps w) (hn : st.length + 1 ≤ 2000000000000) (hnb : n.bytes) (hnu : isU32 n.n) :
    Calls Try.prog 37 #[.pointer (some ⟨kb, 0, none⟩), .agg (enc n)] w fun e w' => e = .returned (.int .i64 (stepT n st ps).1) ∧ Below kb w w' ∧ ((stepT n st ps).1 = 0 → WalkAt r hi kb (stepT n st ps).2.1 (stepT n st ps).2.2 w') := by
  cases hk : arityK n.kind with
  | none =>
    have hres : stepT n st ps = (120, st, ps) := by simp [stepT, hk]
    rw [hres]
    refine (add_none r hi kb n st ps w hW hk).mono ?_
    rintro e w2 ⟨rfl, hB⟩
    exact ⟨rfl, hB, fun h => by cases h⟩
  | some a => exact add_some r hi kb a n st ps w hW hk hn hnb hnu
end Go.Proofs.Ytedhlofmkehfkaa
