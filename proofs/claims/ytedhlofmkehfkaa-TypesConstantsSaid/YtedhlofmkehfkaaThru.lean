/- types.through: a list of nodes, gone through. -/
import Derived.Test.YtedhlofmkehfkaaAdd
import Derived.Test.YtedhlofmkehfkaaNs3
namespace Go.Proofs.Ytedhlofmkehfkaa
open Go.RowKit Go.Shelf
set_option linter.unusedVariables false
set_option linter.unusedSimpArgs false

@[go_sem] theorem run_storeNode_over (w : World) (y x : Node) : (storeNode (.pointer (some ⟨w.heap.size, 0, none⟩)) (.agg (enc x))).run Try.prog (w.alloc (.cells (enc y) 40)) = .ok () (w.alloc (.cells (enc x) 40)) := run_storeNode_new w _ _ (enc_size y)
set_option maxRecDepth 100000 in
set_option maxHeartbeats 1600000 in
theorem through_any (A : Option Addr) (c : Nat) (ns : List Node) (w : World) (hA : Ns w A ns) (hok : NodesOk ns) :
    Calls Try.prog 28 #[.slice A ns.length c] w fun e w' => ∃ r hi kb, e = .returned (.tuple #[.pointer (some ⟨kb, 0, none⟩), .int .i64 (runT ns 0 [] []).1, .int .i64 (runT ns 0 [] []).2.1]) ∧ Below w.heap.size w w' ∧ w.heap.size ≤ r ∧ ((runT ns 0 [] []).2.1 = 0 → WalkAt r hi kb (runT ns 0 [] []).2.2.1 (runT ns 0 [] []).2.2.2 w') := by
  have HA := Lib.hid hA
  have HO := Lib.hid hok
  have hnl := hok.len
  clear hA hok
  go_enter Try.func28, Try.ntmps28
  go_wp2_with fail
  refine (table_any _).mono ?_
  rintro e w1 ⟨r, rfl, hT⟩
  have hw := walk_start hT
  have hB1 : Below w.heap.size w w1 := by rw [hT.base]; exact hT.below
  have HW := Lib.hid hw
  have hr := hT.base
  have HB1 := Lib.hid hB1
  have HT := Lib.hid hT
  clear hw hB1 hT
  go_wp2_with fail
  obtain ⟨kb, hkb⟩ : ∃ k, w1.heap.size = k := ⟨_, rfl⟩
  have hW1 := HW.out
  rw [hkb] at hW1
  rw [hkb]
  have Hkb := Lib.hid hkb
  have HW1 := Lib.hid hW1
  clear hkb hW1 HW
  go_loopw [14] (fun x wr => ∃ (i : Nat) (st : List Int) (ps : List Part), i ≤ ns.length ∧ x = .int .i64 i ∧ st.length = i ∧ runT (ns.drop i) i st ps = runT ns 0 [] [] ∧ Below w.heap.size w wr ∧ WalkAt r kb kb st ps wr) (fun x _ => ns.length - (intOf x).toNat)
  case atStart => exact ⟨0, [], [], by omega, rfl, rfl, rfl, HB1.out.alloc HB1.out.size _, HW1.out⟩
  case round =>
    obtain ⟨i, st, ps, hi, rfl, hst, hrun, hB, hW⟩ := hrel
    have Hst := Lib.hid hst
    have Hrun := Lib.hid hrun
    have HB := Lib.hid hB
    have HW2 := Lib.hid hW
    clear hrun hB hW hst
    by_cases hlt : i < ns.length
    · obtain ⟨b, o, rfl, hn⟩ := (HA.out.later HB.out) (by omega)
      have h1 := hn i hlt
      have hmem := getD_mem hlt
      have hdrop : ns.drop i = ns.getD i Node.zero :: ns.drop (i + 1) := by
        rw [List.drop_eq_getElem_cons hlt, List.getD_eq_getElem?_getD, List.getElem?_eq_getElem hlt]
        rfl
      obtain ⟨n, hnn⟩ : ∃ n, ns.getD i Node.zero = n := ⟨_, rfl⟩
      rw [hnn] at h1 hmem hdrop
      have hi0 : (0 : Int) ≤ (i : Int) := by omega
      have hi1 : (i : Int) < (ns.length : Int) := by omega
      have Hdrop := Lib.hid hdrop
      have Hmem := Lib.hid hmem
      clear hn hnn hdrop hmem
      go_wp2_with fail
      refine (add_any r kb kb n st ps _ (HW2.out.later ((Below.refl _ _).alloc (Nat.le_refl _) _)) (by have := Hst.out; omega) (HO.out.bytes n Hmem.out) (HO.out.u32 n Hmem.out)).mono ?_
      rintro e w3 ⟨rfl, hB3, hW3⟩
      have hB4 : Below w.heap.size w w3 := (HB.out.alloc HB.out.size _).trans (hB3.mono (by have := HB1.out.size; have := Hkb.out; omega))
      have HB4 := Lib.hid hB4
      have HW4 := Lib.hid hW3
      have hrun2 := Hrun.out
      rw [Hdrop.out] at hrun2
      simp only [runT] at hrun2
      obtain ⟨code, hcode⟩ : ∃ x, (stepT n st ps).1 = x := ⟨_, rfl⟩
      rw [hcode] at hrun2
      rw [hcode]
      have Hcode := Lib.hid hcode
      clear hB3 hW3 hB4 hcode
      by_cases hc0 : code = 0
      · subst hc0
        simp only [ne_eq, not_true, if_false] at hrun2
        have Hrun2 := Lib.hid hrun2
        clear hrun2
        go_wp2_with fail
        go_round
        case rel => exact ⟨i + 1, (stepT n st ps).2.1, (stepT n st ps).2.2, by omega, by go_num, by rw [stepT_len Hcode.out, Hst.out], by have := Hrun2.out; simpa using this, HB4.out, HW4.out Hcode.out⟩
        case measure => simp [intOf]; omega
      · rw [if_pos hc0] at hrun2
        have hcb : (code == 0) = false := by simp [hc0]
        have Hrun2 := Lib.hid hrun2
        clear hrun2
        go_wp2_with fail
        go_ret3
        refine ⟨r, kb, kb, ?_, HB4.out, by omega, ?_⟩
        · rw [← Hrun2.out]
          rfl
        · rw [← Hrun2.out]
          exact fun h => absurd h hc0
    · have Hie := Lib.hid (show i = ns.length by omega)
      have hrun2 := Hrun.out
      rw [List.drop_of_length_le (by omega)] at hrun2
      simp only [runT] at hrun2
      obtain ⟨vs, vp, hR⟩ := HW2.out.row
      obtain ⟨sA, sc, rfl, -⟩ := hR.st.form
      have k1 : wr.cell? ⟨kb, 1, none⟩ = some (.slice sA st.length sc) := by rw [cell_of_row wr kb 1 _ _ _ hR.row]; rfl
      have hown := Lib.hid hR.st
      have hi1 : ¬ (i : Int) < (ns.length : Int) := by omega
      have Hrun2 := Lib.hid hrun2
      clear hrun2 hR
      go_wp2_with fail
      refine (one_any _ (kb + 1) st _ hown.out (by have := Hst.out; omega)).mono ?_
      rintro e w3 ⟨rfl, rfl⟩
      cases ho : oneB st with
      | true =>
        have ho2 : decide (0 < st.length ∧ st.getD (st.length - 1) 0 = 0) = true := ho
        rw [ho2]
        go_wp2_with fail
        go_ret3
        have hh := Hrun2.out
        rw [ho, if_pos rfl] at hh
        refine ⟨r, kb, kb, ?_, HB.out, by omega, ?_⟩
        · rw [← hh]
          rfl
        · rw [← hh]
          exact fun _ => HW2.out
      | false =>
        have ho2 : decide (0 < st.length ∧ st.getD (st.length - 1) 0 = 0) = false := ho
        rw [ho2]
        go_wp2_with fail
        go_ret3
        have hh := Hrun2.out
        rw [ho, if_neg (by simp)] at hh
        refine ⟨r, kb, kb, ?_, HB.out, by omega, ?_⟩
        · rw [← hh, Hie.out]
          rfl
        · rw [← hh]
          exact fun h => by cases h
end Go.Proofs.Ytedhlofmkehfkaa
