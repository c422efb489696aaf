/- tree.Of. -/
import Derived.Test.YtedhlofmkehfkaaThru
namespace Go.Proofs.Ytedhlofmkehfkaa
open Go.RowKit Go.Shelf
set_option linter.unusedVariables false
set_option linter.unusedSimpArgs false

/-- Where the trees of a list begin. -/
def ofT : List Node → List Int → Option (List Int)
  | [], st => some st
  | n :: ns, st => match arityK n.kind with
    | none => none
    | some a => match addL st a with
      | none => none
      | some st2 => ofT ns st2
theorem intInfos : (Try.prog.info? 3).map (fun i => (i.zero, i.size, i.bytes)) = some (some (.int .i64 0), 1, 8) := by kernel_rfl
set_option maxRecDepth 100000 in
set_option maxHeartbeats 1600000 in
theorem of_any (A : Option Addr) (c : Nat) (ns : List Node) (w : World) (hA : Ns w A ns) (hnl : ns.length ≤ 1954687338260) :
    Calls Try.prog 33 #[.slice A ns.length c] w fun e w' => Below w.heap.size w w' ∧
      ((ofT ns [] = none ∧ e = .returned (.tuple #[.slice none 0 0, .bool false])) ∨
       (∃ st v, ofT ns [] = some st ∧ e = .returned (.tuple #[v, .bool (oneB st)]) ∧ OwnI w' w.heap.size v st ∧ StartsOk st ∧ st.length = ns.length)) := by
  obtain ⟨i0, hi0, hz0, hz1, hz2⟩ := info_parts intInfos
  have Hz0 := Lib.hid hz0
  have Hz1 := Lib.hid hz1
  have Hz2 := Lib.hid hz2
  have HA := Lib.hid hA
  clear hz0 hz1 hz2 hA
  go_enter Try.func33, Try.ntmps33
  go_wp2_with (refine wpList_make_own _ rfl _ _ 58 rfl w.heap.size 3 i0 (.int .i64 0) 1 Try.underlying58 hi0 Hz0.out Hz1.out .i64 .i64 _ ns.length rfl rfl rfl (by rw [Hz2.out]; omega) (by simp only [maxLen]; omega) (Nat.le_refl _) ?_; intro w1 hown hgrow; refine Hid.out ?_)
  refine Lib.hid ?_
  have hB1 : Below w.heap.size w w1 := (Below.refl _ w).grown hgrow (Nat.le_refl _) (fun k e => by cases e)
  have HO1 := Lib.hid hown
  have HB1 := Lib.hid hB1
  clear hown hgrow hB1
  go_wp2_with fail
  go_loopw [14, 4] (fun x y wr => ∃ (i : Nat) (st : List Int) (yA : Option Addr) (yc : Nat), i ≤ ns.length ∧ x = .int .i64 i ∧ y = .slice yA st.length yc ∧ st.length = i ∧ ofT (ns.drop i) st = ofT ns [] ∧ Below w.heap.size w wr ∧ OwnI wr w.heap.size (.slice yA st.length yc) st ∧ StartsOk st) (fun x _ _ => ns.length - (intOf x).toNat)
  case atStart => exact ⟨0, [], _, _, by omega, rfl, rfl, rfl, rfl, HB1.out, HO1.out, fun i hi => by cases hi⟩
  case round =>
    obtain ⟨i, st, yA, yc, hi', rfl, rfl, hst, hrun, hB2, hO2, hs2⟩ := hrel
    have Hst := Lib.hid hst
    have Hrun := Lib.hid hrun
    have HB2 := Lib.hid hB2
    have HO2 := Lib.hid hO2
    have HS2 := Lib.hid hs2
    clear hst hrun hB2 hO2 hs2
    by_cases hlt : i < ns.length
    · obtain ⟨b, o, rfl, hn⟩ := (HA.out.later HB2.out) (by omega)
      have h1 := hn i hlt
      have hdrop : ns.drop i = ns.getD i Node.zero :: ns.drop (i + 1) := by
        rw [List.drop_eq_getElem_cons hlt, List.getD_eq_getElem?_getD, List.getElem?_eq_getElem hlt]
        rfl
      obtain ⟨n, hnn⟩ : ∃ n, ns.getD i Node.zero = n := ⟨_, rfl⟩
      rw [hnn] at h1 hdrop
      have i2 : (0 : Int) ≤ (i : Int) := by omega
      have i3 : (i : Int) < (ns.length : Int) := by omega
      have hrun2 := Hrun.out
      rw [hdrop] at hrun2
      simp only [ofT] at hrun2
      have hB3 : Below w.heap.size w (wr.alloc (.cells (enc n) 40)) := HB2.out.alloc HB2.out.size _
      have HB3 := Lib.hid hB3
      clear hn hnn hdrop hB3
      cases har : arityK n.kind with
      | none =>
        rw [har] at hrun2
        have Hrun2 := Lib.hid hrun2
        clear hrun2
        go_wp2_with fail
        refine (arity_any _ _).mono ?_
        rw [har]
        rintro e w3 ⟨rfl, rfl⟩
        go_wp2_with fail
        go_ret2
        exact ⟨HB3.out, .inl ⟨Hrun2.out.symm, rfl⟩⟩
      | some a =>
        have hkr := arityK_range har
        rw [har] at hrun2
        simp only at hrun2
        go_wp2_with fail
        refine (arity_any _ _).mono ?_
        rw [har]
        rintro e w3 ⟨rfl, rfl⟩
        go_wp2_with fail
        have hO3 : OwnI (wr.alloc (.cells (enc n) 40)) w.heap.size (.slice yA st.length yc) st := own_later HO2.out fun b hb => Below.heap_alloc _ _ _ (own_lt HO2.out hb).2
        cases hadd : addL st a with
        | none =>
          rw [hadd] at hrun2
          have Hrun2 := Lib.hid hrun2
          clear hrun2
          refine (add_no w.heap.size _ st a _ hO3 HS2.out hkr.2.2 (by have := Hst.out; omega) hadd).mono ?_
          rintro e w4 ⟨rfl, rfl⟩
          clear hO3
          go_wp2_with fail
          go_ret2
          exact ⟨HB3.out, .inl ⟨Hrun2.out.symm, rfl⟩⟩
        | some st2 =>
          rw [hadd] at hrun2
          simp only at hrun2
          have Hrun2 := Lib.hid hrun2
          clear hrun2
          have hl2 := addL_len hadd
          refine (add_yes w.heap.size _ st st2 a _ hO3 HS2.out hkr.2.2 (by have := Hst.out; omega) HB3.out.size hadd).mono ?_
          rintro e w4 ⟨v2, rfl, hown, hgrow, hob, hst2⟩
          obtain ⟨A2, c2, rfl, -⟩ := hown.form
          have hB4 : Below w.heap.size w w4 := HB3.out.grown hgrow HB3.out.size fun k e => (own_lt hO3 e).1
          have HB4 := Lib.hid hB4
          have HO4 := Lib.hid hown
          have HS4 := Lib.hid hst2
          have Hl2 := Lib.hid hl2
          clear hO3 hgrow hob hst2 hB4 hl2 hown
          go_wp2_with fail
          go_round
          case rel => exact ⟨i + 1, st2, A2, c2, by omega, by go_num, rfl, by rw [Hl2.out, Hst.out], Hrun2.out, HB4.out, HO4.out, HS4.out⟩
          case measure => simp [intOf]; omega
    · have Hie := Lib.hid (show i = ns.length by omega)
      have hrun2 := Hrun.out
      rw [List.drop_of_length_le (by omega)] at hrun2
      simp only [ofT] at hrun2
      have hi1 : ¬ (i : Int) < (ns.length : Int) := by omega
      have Hrun2 := Lib.hid hrun2
      clear hrun2
      go_wp2_with fail
      have HOne : Calls Try.prog 38 #[.slice yA st.length yc] wr fun e w' => e = .returned (.bool (oneB st)) ∧ wr = w' := one_any _ w.heap.size st _ HO2.out (by have := Hst.out; omega)
      refine HOne.mono ?_
      rintro e w3 ⟨rfl, rfl⟩
      go_wp2_with fail
      go_ret2
      exact ⟨HB2.out, .inr ⟨st, _, Hrun2.out.symm, rfl, HO2.out, HS2.out, by rw [Hst.out, Hie.out]⟩⟩
end Go.Proofs.Ytedhlofmkehfkaa
