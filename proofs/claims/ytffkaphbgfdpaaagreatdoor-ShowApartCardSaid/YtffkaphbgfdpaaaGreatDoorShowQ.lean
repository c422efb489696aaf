/- Package show: told, Show, Full. -/
import Derived.Test.YtffkaphbgfdpaaaGreatDoorShowO
import Derived.Test.YtffkaphbgfdpaaaGreatDoorMTb
namespace Go.Proofs.YtffkaphbgfdpaaaGreatDoor
open Go.RowKit Go.Shelf Go.Deep T
set_option linter.unusedVariables false
set_option linter.unusedSimpArgs false
set_option maxRecDepth 100000

open Classical in
/-- The tree of a list, where it is one. -/
noncomputable def treeN (ns : List Node) : Tr := if h : ∃ t : Tr, t.Fit ∧ t.flat = ns then h.choose else .leaf Node.zero
theorem treeN_flat {t : Tr} (h : t.Fit) : treeN t.flat = t := by
  have hx : ∃ u : Tr, u.Fit ∧ u.flat = t.flat := ⟨t, h, rfl⟩
  unfold treeN
  rw [dif_pos hx]
  exact (flat_inj _ _ [] [] hx.choose_spec.1 h (by simpa using hx.choose_spec.2)).1
/-- What a list's text comes to: the text, the error. -/
noncomputable def toldL (full : Bool) (ns : List Node) : List UInt8 × Int :=
  if (checkT ns).2 ≠ 0 then ([], 130) else if 200 < (saidT full (treeN ns)).2 then ([], 131) else ((saidT full (treeN ns)).1, 0)
theorem told_any (full : Bool) {fb : Nat} (hfb : FnBare fb full) (hen : Enters Tryz.prog fb) (ns : List Node) (A : Option Addr) (c : Nat) (w : World) (hA : Ns w A ns) (hok : NodesOk ns) (ht : Tab10 w) (hd : Deb w) :
    Calls Tryz.prog 24 #[.slice A ns.length c, .func (.func fb) #[] #[]] w fun e w' => e = .returned (.tuple #[.string (bs (toldL full ns).1), .int .i64 (toldL full ns).2]) ∧ Below w.heap.size w w' := by
  have HC := Lib.hid (check_any A c ns w hA hok)
  by_cases hc : (checkT ns).2 = 0
  case neg =>
    have HL := Lib.hid (show toldL full ns = ([], 130) from by unfold toldL; rw [if_pos hc])
    go_enter Tryz.func24, Tryz.ntmps24
    go_wp2_with fail
    refine HC.out.mono ?_
    rintro e w1 ⟨rfl, hB⟩
    have HB := Lib.hid hB
    clear hB
    go_wp2_with fail
    go_ret2
    rw [HL.out]
    exact ⟨rfl, HB.out⟩
  case pos =>
    obtain ⟨t, hF, rfl, hof, hfine, hlen⟩ := filter_fine hok hc
    have HW := Lib.hid (fun (W : World) (hB : Below w.heap.size w W) => write_any full hfb hen t A c W (hA.later hB) hF hfine (by omega) (ht.later hB) (hd.later hB))
    have hsl := (said_len full t fun n hn => (hfine n hn).ok).2
    have HL := Lib.hid (show toldL full t.flat = if 200 < (saidT full t).2 then ([], 131) else ((saidT full t).1, 0) from by unfold toldL; rw [if_neg (by simpa using hc), treeN_flat hF])
    rw [hc] at HC
    obtain ⟨S, hS⟩ : ∃ S, saidT full t = S := ⟨_, rfl⟩
    rw [hS] at HW hsl HL
    have hs1 : S.2 ≤ 1000000 := by omega
    clear hA hok ht hd hof hfine hlen hsl hS hfb hen hF hc
    go_enter Tryz.func24, Tryz.ntmps24
    go_wp2_with fail
    refine HC.out.mono ?_
    rintro e w1 ⟨rfl, hB⟩
    have HB := Lib.hid hB
    clear hB
    go_wp2_with fail
    refine (HW.out _ HB.out).mono ?_
    rintro e w2 ⟨rfl, hB2⟩
    have hn := SaidAt.new w2 S
    have hst := run_storeS_new w2 #[.string ⟨#[]⟩, .int .i64 0] S rfl
    have c0 := hn.c0
    have c1 := hn.c1
    have HB9 := Lib.hid ((HB.out.trans (hB2.mono HB.out.size)).alloc (HB.out.trans (hB2.mono HB.out.size)).size (.cells (encS S) 91))
    clear hB2 hn
    by_cases h2 : 200 < S.2
    · have HL2 := Lib.hid (show toldL full t.flat = ([], 131) from by rw [HL.out, if_pos h2])
      have hz : (200 : Int) < (S.2 : Int) := by omega
      clear h2
      go_wp2_with fail
      go_ret2
      rw [HL2.out]
      exact ⟨rfl, HB9.out⟩
    · have HL2 := Lib.hid (show toldL full t.flat = (S.1, 0) from by rw [HL.out, if_neg h2])
      have hz : ¬ (200 : Int) < (S.2 : Int) := by omega
      clear h2
      go_wp2_with fail
      go_ret2
      rw [HL2.out]
      exact ⟨rfl, HB9.out⟩
theorem enters_show : Enters Tryz.prog 25 := fun _ _ => rfl
theorem enters_full : Enters Tryz.prog 28 := fun _ _ => rfl
theorem show_any (ns : List Node) (A : Option Addr) (c : Nat) (w : World) (hA : Ns w A ns) (hok : NodesOk ns) (ht : Tab10 w) (hd : Deb w) :
    Calls Tryz.prog 11 #[.slice A ns.length c] w fun e w' => e = .returned (.tuple #[.string (bs (toldL false ns).1), .int .i64 (toldL false ns).2]) ∧ Below w.heap.size w w' := by
  have HC := Lib.hid (told_any false bare_show enters_show ns A c w hA hok ht hd)
  clear hA hok ht hd
  go_enter Tryz.func11, Tryz.ntmps11
  go_wp2_with fail
  refine HC.out.mono ?_
  rintro e w1 ⟨rfl, hB⟩
  have HB := Lib.hid hB
  clear hB
  go_wp2_with fail
  go_ret2
  exact ⟨rfl, HB.out⟩
theorem full_any (ns : List Node) (A : Option Addr) (c : Nat) (w : World) (hA : Ns w A ns) (hok : NodesOk ns) (ht : Tab10 w) (hd : Deb w) :
    Calls Tryz.prog 13 #[.slice A ns.length c] w fun e w' => e = .returned (.tuple #[.string (bs (toldL true ns).1), .int .i64 (toldL true ns).2]) ∧ Below w.heap.size w w' := by
  have HC := Lib.hid (told_any true bare_full enters_full ns A c w hA hok ht hd)
  clear hA hok ht hd
  go_enter Tryz.func13, Tryz.ntmps13
  go_wp2_with fail
  refine HC.out.mono ?_
  rintro e w1 ⟨rfl, hB⟩
  have HB := Lib.hid hB
  clear hB
  go_wp2_with fail
  go_ret2
  exact ⟨rfl, HB.out⟩
end Go.Proofs.YtffkaphbgfdpaaaGreatDoor
