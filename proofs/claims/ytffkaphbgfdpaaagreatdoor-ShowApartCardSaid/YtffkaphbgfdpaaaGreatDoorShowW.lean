/- riddlelaw13.awake: it answers true. -/
import Derived.Test.YtffkaphbgfdpaaaGreatDoorShowQ
import Derived.Test.YtffkaphbgfdpaaaGreatDoorMTc
namespace Go.Proofs.YtffkaphbgfdpaaaGreatDoor
open Go.RowKit Go.Shelf Go.Deep T
set_option linter.unusedVariables false
set_option linter.unusedSimpArgs false
set_option maxRecDepth 100000

theorem told_of {full : Bool} {t : Tr} {ns : List Node} (hF : t.Fit) (he : t.flat = ns) (hc : (checkT ns).2 = 0) (hd : (saidT full t).2 ≤ 200) : toldL full ns = ((saidT full t).1, 0) := by
  subst he
  unfold toldL
  rw [if_neg (by simpa using hc), treeN_flat hF, if_neg (by omega)]
@[go_sem] theorem run_buildNodes5 (w : World) (x y z u v : Node) : (buildNodes 5 #[(0, .agg (enc x)), (1, .agg (enc y)), (2, .agg (enc z)), (3, .agg (enc u)), (4, .agg (enc v))]).run Tryz.prog w = .ok (.slice (some ⟨w.heap.size, 0, none⟩) 5 5) (w.alloc (.cells (flat [x, y, z, u, v]).toArray 37)) := run_buildNodes w [x, y, z, u, v] (by simp) (by simp)
abbrev wideL : List Node := [T.Node.kf 11 2, T.Node.kf 11 5, T.Node.k0 9, T.Node.k0 8, T.Node.k0 9]
abbrev wideT : Tr := .un (T.Node.k0 9) (.bin (T.Node.k0 8) (.leaf (T.Node.kf 11 2)) (.un (T.Node.k0 9) (.leaf (T.Node.kf 11 5))))
theorem check_wide : checkT wideL = (0, 0) := by kernel_rfl
theorem fit_wide : wideT.Fit := ⟨rfl, rfl, rfl, rfl, rfl⟩
theorem told_wide : toldL false wideL = ([110, 111, 116, 32, 40, 105, 112, 32, 111, 114, 32, 110, 111, 116, 32, 117, 100, 112, 41], 0) := by
  refine (told_of (full := false) fit_wide (ns := wideL) rfl (by rw [check_wide]) (by decide +kernel)).trans ?_
  kernel_rfl
theorem told_wide2 : toldL true wideL = ([110, 111, 116, 32, 40, 105, 112, 32, 111, 114, 32, 40, 110, 111, 116, 32, 117, 100, 112, 41, 41], 0) := by
  refine (told_of (full := true) fit_wide (ns := wideL) rfl (by rw [check_wide]) (by decide +kernel)).trans ?_
  kernel_rfl
theorem ok_wide : NodesOk wideL := nodesOk_of (by simp [T.Node.kf, T.Node.k0, T.Node.zero, isU32]) (by simp)
set_option maxHeartbeats 1600000 in
theorem awake13 (w : World) (ht : Tab10 w) (hd : Deb w) : Calls Tryz.prog 14 #[] w fun e w' => e = .returned (.bool true) ∧ Below w.heap.size w w' := by
  have HB0 := Lib.hid (show Below w.heap.size w (w.alloc (.cells (flat wideL).toArray 37)) from (Below.refl _ _).alloc (Nat.le_refl _) _)
  have HT := Lib.hid ht
  have HD := Lib.hid hd
  clear ht hd
  go_enter Tryz.func14, Tryz.ntmps14
  go_wp2_with fail
  have c1 := show_any wideL (some ⟨w.heap.size, 0, none⟩) 5 (w.alloc (.cells (flat wideL).toArray 37)) ns_new ok_wide (HT.out.later HB0.out) (HD.out.later HB0.out)
  rw [told_wide] at c1
  refine c1.mono ?_
  rintro e w1 ⟨rfl, hB⟩
  have HB1 := Lib.hid (HB0.out.trans (hB.mono HB0.out.size))
  have HN1 := Lib.hid (Ns.later (ns_new (w := w) (l := wideL)) hB)
  clear hB c1
  go_wp2_with fail
  have c2 := full_any wideL (some ⟨w.heap.size, 0, none⟩) 5 w1 HN1.out ok_wide (HT.out.later HB1.out) (HD.out.later HB1.out)
  rw [told_wide2] at c2
  refine c2.mono ?_
  rintro e w2 ⟨rfl, hB⟩
  have HB2 := Lib.hid (HB1.out.trans (hB.mono HB1.out.size))
  clear hB c2
  have t1 : (bs [110, 111, 116, 32, 40, 105, 112, 32, 111, 114, 32, 110, 111, 116, 32, 117, 100, 112, 41]).toList = [110, 111, 116, 32, 40, 105, 112, 32, 111, 114, 32, 110, 111, 116, 32, 117, 100, 112, 41] := by decide +kernel
  have t2 : (bs [110, 111, 116, 32, 40, 105, 112, 32, 111, 114, 32, 40, 110, 111, 116, 32, 117, 100, 112, 41, 41]).toList = [110, 111, 116, 32, 40, 105, 112, 32, 111, 114, 32, 40, 110, 111, 116, 32, 117, 100, 112, 41, 41] := by decide +kernel
  go_wp2_with fail
  go_ret
  first | exact ⟨rfl, HB2.out⟩ | exact ⟨congrArg (fun b => Ending.returned (Value.bool b)) (by decide +kernel), HB2.out⟩
end Go.Proofs.YtffkaphbgfdpaaaGreatDoor
