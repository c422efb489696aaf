/- AsmPlaces: for every input the law answers true, and its arguments read behind the call as they read before. -/
import Derived.Test.YtckbcmoanadckaaDoorPlacesW
import Derived.Test.YtckbcmoanadckaaDoorCardU
import Derived.Test.YtckbcmoanadckaaDoorOpenI
import Derived.OpenShut
import Derived.SizedLaws
import Derived.ShutString
import Derived.ChangeOld
import Derived.Below
import Derived.Deep.DeepHandedRow
import Derived.JoinedCond
namespace Go.Proofs.YtckbcmoanadckaaDoor.asmPlacesDone
open Go.ChangeShapes Go.WideShapes Go.ChangeAt Go.RowKit Go.Lib
open Go.ChangeMaps (open_string shut_string)
set_option linter.unusedVariables false

set_option maxRecDepth 100000 in
theorem lifted (os : Os) (started : os.Started) (H : Type) (enc : TypeId × Value → H) (F : Stop.Interp) :
    ReturnsInHanded {} Tryd.checked os 8 .any ((Rows.OpenSpec.upto Rows.asmPlacesSpec).preRow enc Tryd.prog Tryd.f8 Rows.asmPlacesUptoRow.domain false Rows.asmPlacesUptoRow.laid) (((Rows.OpenSpec.upto Rows.asmPlacesSpec).at F).post enc Tryd.prog Tryd.f8 false true false false) := by
  refine returnsInHanded_of_row (C := Tryd.checked) (s := (Rows.OpenSpec.upto Rows.asmPlacesSpec)) own started (by kernel_rfl) Tryd.func8
    (witness_rowL (enc := enc) (C := Tryd.checked) false (World.laidAll Tryd.prog os Rows.asmPlacesUptoRow.laid) #[.slice none 0 0, .string ⟨#[]⟩, .slice none 0 0] (World.laidAll_os _ _ _)
      (World.shaped_of_ZipB (by kernel_rfl) (by kernel_rfl)) (by kernel_rfl)
      (OpenSpec.preRow_of_cond 8 (x := ([.nil, .lit (.string []), .nil], [], [])) (by kernel_rfl) (by kernel_rfl) (fun k hk => by cases hk; kernel_rfl) (by kernel_rfl)
        (by rw [MakeChecks.laidMetH_plain _ _ _ (by kernel_rfl)]; exact laidMet_laidAll _ (by kernel_rfl) (by kernel_rfl)))) ?_
  intro W base args ds gs before hval0 hW _ hk hsz0 hX hsh _
  rw [MakeChecks.laidMetH_plain _ _ _ (by kernel_rfl)] at hX
  have ht : Tab10 W := tab10_of hX (.tail _ (.tail _ (.head _)))
  have hval : ∀ (j : Nat) t v, Tryd.f8.params[j]? = some t → args[j]? = some v → Value.okWide Tryd.prog W .any base t v := hval0
  have hW' := hW
  obtain ⟨p, q, hA0, hV, rfl, hfz, hnd⟩ := hW
  have hA : DataW.TrodAll enc Tryd.prog W 0 (fun _ => true) true Tryd.f8.params.toList args.toList ds p := hA0
  have hbd := of_decide_eq_true (hk _ rfl)
  rw [Tryd.params8] at hA hval
  obtain ⟨v0, vs0, d0, ds0, p0, q0, hargs, rfl, rfl, h0, r0⟩ := trodAll_cons hA
  obtain ⟨v1, vs1, d1, ds1, p1, q1, rfl, rfl, rfl, h1, r1⟩ := trodAll_cons r0
  obtain ⟨v2, vs2, d2, ds2, p2, q2, rfl, rfl, rfl, h2, r2⟩ := trodAll_cons r1
  obtain ⟨rfl, rfl, rfl⟩ := trodAll_nil r2
  obtain rfl : args = #[v0, v1, v2] := by cases args; simp_all
  obtain ⟨rfl, rfl⟩ := trodVars_none hV
  obtain ⟨m, hm⟩ := max_of hsh
  obtain ⟨A0, len0, cap0, rfl⟩ := okWide_slice Tryd.underlying29 (hval 0 29 v0 rfl rfl)
  have k0 := h0
  have lt0 : ∀ x ∈ p0, x.block < W.heap.size := by obtain ⟨m, hm⟩ := k0; exact DataW.trod_lt m _ _ _ hm
  obtain ⟨ns0, rfl, hN0, ho0, hc0, hn0, hd0⟩ := open_insns h0
  obtain ⟨s1, rfl, rfl, rfl, w1⟩ := open_string Tryd.underlying9 (hval 1 9 v1 rfl rfl) h1
  obtain ⟨A2, len2, cap2, rfl⟩ := okWide_slice Tryd.underlying29 (hval 2 29 v2 rfl rfl)
  have k2 := h2
  have lt2 : ∀ x ∈ p2, x.block < W.heap.size := by obtain ⟨m, hm⟩ := k2; exact DataW.trod_lt m _ _ _ hm
  obtain ⟨ns2, rfl, hN2, ho2, hc2, hn2, hd2⟩ := open_insns h2
  simp only [List.append_nil, Rows.uptoBulkAll] at hbd
  have hbc0 := bulk_cap hd0
  have hr0 : cap0 * 8 ≤ 140737488351232 := by omega
  have hz1 : s1.size ≤ 1048576 := by
    have h : Rows.uptoBulk (DataW.lit (H := H) (.string s1.data.toList)) = s1.data.toList.length + 1 := by simp [Rows.uptoBulk]
    rw [size_list] at h
    omega
  have hbc2 := bulk_cap hd2
  have hr2 : cap2 * 8 ≤ 140737488351232 := by omega
  clear hA0 hval0
  simp only [List.append_nil] at hW'
  refine (places_law A0 cap0 ns0 s1 A2 cap2 ns2 m W hN0 ho0 hn0 hc0 hr0 hz1 hN2 ho2 hn2 hc2 hr2 hm ht).mono fun e W' ⟨he, bel⟩ => ?_
  subst he
  exact ⟨_, rfl, _, _, _, [], _, [], hW', trodAll_mk1 (shut_bool Tryd.underlying4 _), (trodAll_cons_mk (Below.trod laidOut (by kernel_rfl) (of_decide_eq_true (by kernel_rfl)) k0 bel lt0) (trodAll_cons_mk (shut_string Tryd.underlying9 w1) (trodAll_cons_mk (Below.trod laidOut (by kernel_rfl) (of_decide_eq_true (by kernel_rfl)) k2 bel lt2) trodAll_mk0))), rfl, bel.frame _, fun h => by cases h⟩

theorem over : Rows.asmPlacesUptoRow.holds Tryd.pinned (Rows.OpenSpec.upto Rows.asmPlacesSpec) :=
  OpenClaim.holds_of_cond 8 Tryd.f8 rfl rfl rfl rfl rfl rfl rfl ⟨rfl, rfl, rfl, rfl, rfl⟩ rfl rfl rfl rfl rfl (by kernel_rfl) Tryd.func8 (by kernel_rfl)
    (of_decide_eq_true (by kernel_rfl)) (by unfold Func.isWrapper; first | (rw [if_pos (by decide +kernel)]; kernel_rfl) | (rw [if_neg (by decide +kernel)]; exact ⟨rfl, rfl⟩))
    (fun os started H enc _ F => by rw [OpenClaim.pre_eq_preRow]; exact lifted os started H enc F)

/-- The statement: the row, and what it lists tied to the program's text. -/
theorem proved : Rows.AsmPlacesUptoCardSaid :=
  Claim7.holds_tied_plain_at .later [] [.data, .data, .data] true Rows.asmPlacesUptoCard.stood.harness false over (fun _ h => by cases h) (by kernel_rfl) (fun _ h => by cases h) asmPlacesUpto_row_tie rfl ⟨rfl, rfl⟩ (by kernel_rfl) rfl
    (fun f fn hf hfn => by
      obtain rfl : f = 8 := Option.some.inj ((show Tryd.prog.funcNamed "riddle/riddlelaw3.AsmPlaces" = some 8 by kernel_rfl).symm.trans hf) |>.symm
      obtain rfl : fn = Tryd.f8 := (Option.some.inj (Tryd.func8.symm.trans hfn)).symm
      exact ⟨by kernel_rfl, fun j t ht => by
        rw [Tryd.params8] at ht
        have hm : t ∈ [29, 9, 29] := by simpa using Array.mem_of_getElem? ht
        have hall : ([29, 9, 29].all fun u => !Tryd.prog.wantsStandIn u) = true := by kernel_rfl
        exact (show Tryd.prog.wantsStandIn t = false by simpa using List.all_eq_true.1 hall t hm)⟩)
    (by kernel_rfl)
end Go.Proofs.YtckbcmoanadckaaDoor.asmPlacesDone
#print axioms Go.Proofs.YtckbcmoanadckaaDoor.asmPlacesDone.proved
