/- ShowApart: the walk. -/
import Derived.Test.YtffkaphbgfdpaaaGreatDoorApartL
import Derived.Test.YtffkaphbgfdpaaaGreatDoorShowW
import Derived.Test.YtffkaphbgfdpaaaGreatDoorCard
import Derived.Test.YtffkaphbgfdpaaaGreatDoorMTb
import Derived.Test.YtffkaphbgfdpaaaGreatDoorMTc
import Derived.Deep.Cut
namespace Go.Proofs.YtffkaphbgfdpaaaGreatDoor
open Go.RowKit Go.Shelf Go.Deep T
set_option linter.unusedVariables false
set_option linter.unusedSimpArgs false
set_option maxRecDepth 100000

theorem bs_same (a b : List UInt8) : ((bs a).toList == (bs b).toList) = decide (a = b) := by
  rw [ByteArray.toList_eq, ByteArray.toList_eq, bs_list, bs_list]
  exact (Bool.eq_iff_iff.2 (by rw [beq_iff_eq, decide_eq_true_iff]))
set_option maxHeartbeats 16000000 in
theorem apart_go (A : Option Addr) (c : Nat) (ns : List Node) (B : Option Addr) (d : Nat) (ms : List Node) (m : Int) (w : World) (hA : Ns w A ns) (hok : NodesOk ns) (hnA : A = none → c = 0) (hcA : ns.length ≤ c) (hrA : c ≤ 1954687338211) (hB : Ns w B ms) (hok2 : NodesOk ms) (hnB : B = none → d = 0) (hcB : ms.length ≤ d) (hrB : d ≤ 1954687338211) (hG : Given m w) :
    Calls Tryz.prog 4 #[.slice A ns.length c, .slice B ms.length d] w fun e w' => e = .returned (.bool true) ∧ Below w.heap.size w w' := by
  have HA := Lib.hid hA
  have HB := Lib.hid hB
  have Hok := Lib.hid hok
  have Hok2 := Lib.hid hok2
  have Hn := Lib.hid hnA
  have Hn2 := Lib.hid hnB
  have HT := Lib.hid hG.tab
  have HD := Lib.hid hG.deb
  have Hlen := Lib.hid hok.len
  have Hlen2 := Lib.hid hok2.len
  obtain ⟨S1, hS1⟩ : ∃ S, toldL false ns = S := ⟨_, rfl⟩
  obtain ⟨S2, hS2⟩ : ∃ S, toldL false ms = S := ⟨_, rfl⟩
  obtain ⟨S3, hS3⟩ : ∃ S, toldL true ns = S := ⟨_, rfl⟩
  obtain ⟨S4, hS4⟩ : ∃ S, toldL true ms = S := ⟨_, rfl⟩
  have HAW := Lib.hid (fun (W : World) (hB : Below w.heap.size w W) => (awake13 W (HT.out.later hB) (HD.out.later hB)).mono (R' := fun e w' => e = .returned (.bool true) ∧ Below w.heap.size w w') fun e w' h => ⟨h.1, hB.trans (h.2.mono hB.size)⟩)
  have C1 := Lib.hid (fun (W : World) (g c : Nat) (h : Ns W (some ⟨g, 0, none⟩) ns) (hB : Below w.heap.size w W) => by have := show_any ns _ c W h hok (HT.out.later hB) (HD.out.later hB); rw [hS1] at this; exact this)
  have C2 := Lib.hid (fun (W : World) (g c : Nat) (h : Ns W (some ⟨g, 0, none⟩) ms) (hB : Below w.heap.size w W) => by have := show_any ms _ c W h hok2 (HT.out.later hB) (HD.out.later hB); rw [hS2] at this; exact this)
  have C3 := Lib.hid (fun (W : World) (g c : Nat) (h : Ns W (some ⟨g, 0, none⟩) ns) (hB : Below w.heap.size w W) => by have := full_any ns _ c W h hok (HT.out.later hB) (HD.out.later hB); rw [hS3] at this; exact this)
  have C4 := Lib.hid (fun (W : World) (g c : Nat) (h : Ns W (some ⟨g, 0, none⟩) ms) (hB : Below w.heap.size w W) => by have := full_any ms _ c W h hok2 (HT.out.later hB) (HD.out.later hB); rw [hS4] at this; exact this)
  have key1 := Lib.hid (fun (h1 : S1.2 = 0) (h2 : S2.2 = 0) => by have := apart hok hok2 (full := false) (by rw [hS1]; exact h1) (by rw [hS2]; exact h2); rw [hS1, hS2] at this; exact this)
  have key2 := Lib.hid (fun (h1 : S3.2 = 0) (h2 : S4.2 = 0) => by have := apart hok hok2 (full := true) (by rw [hS3]; exact h1) (by rw [hS4]; exact h2); rw [hS3, hS4] at this; exact this)
  obtain ⟨s, e1⟩ := S1
  obtain ⟨t, e2⟩ := S2
  obtain ⟨u, e3⟩ := S3
  obtain ⟨v, e4⟩ := S4
  clear hA hB hok hok2 hnA hnB hG hS1 hS2 hS3 hS4 hrA hrB hcA hcB
  go_enter Tryz.func4, Tryz.ntmps4
  go_wp2_with fail
  refine (copy_any A c ns _ (HA.out) Hlen.out Hn.out).mono ?_
  rintro e w1 ⟨g1, c1, rfl, hown, hB⟩
  have HO1 := Lib.hid hown.is
  have HB1 := Lib.hid hB
  clear hown hB
  go_wp2_with fail
  refine (C1.out _ _ _ HO1.out HB1.out).mono ?_
  rintro e w2 ⟨rfl, hB⟩
  have HB2 := Lib.hid (HB1.out.trans (hB.mono HB1.out.size))
  clear hB
  go_wp2_with fail
  refine (copy_any B d ms _ (HB.out.later HB2.out) Hlen2.out Hn2.out).mono ?_
  rintro e w3 ⟨g3, c3, rfl, hown, hB⟩
  have HO3 := Lib.hid hown.is
  have HB3 := Lib.hid (HB2.out.trans (hB.mono HB2.out.size))
  clear hown hB
  go_wp2_with fail
  refine (C2.out _ _ _ HO3.out HB3.out).mono ?_
  rintro e w4 ⟨rfl, hB⟩
  have HB4 := Lib.hid (HB3.out.trans (hB.mono HB3.out.size))
  clear hB
  go_wp2_with fail
  refine (copy_any A c ns _ (HA.out.later HB4.out) Hlen.out Hn.out).mono ?_
  rintro e w5 ⟨g5, c5, rfl, hown, hB⟩
  have HO5 := Lib.hid hown.is
  have HB5 := Lib.hid (HB4.out.trans (hB.mono HB4.out.size))
  clear hown hB
  go_wp2_with fail
  refine (C3.out _ _ _ HO5.out HB5.out).mono ?_
  rintro e w6 ⟨rfl, hB⟩
  have HB6 := Lib.hid (HB5.out.trans (hB.mono HB5.out.size))
  clear hB
  go_wp2_with fail
  refine (copy_any B d ms _ (HB.out.later HB6.out) Hlen2.out Hn2.out).mono ?_
  rintro e w7 ⟨g7, c7, rfl, hown, hB⟩
  have HO7 := Lib.hid hown.is
  have HB7 := Lib.hid (HB6.out.trans (hB.mono HB6.out.size))
  clear hown hB
  go_wp2_with fail
  refine (C4.out _ _ _ HO7.out HB7.out).mono ?_
  rintro e w8 ⟨rfl, hB⟩
  have HB8 := Lib.hid (HB7.out.trans (hB.mono HB7.out.size))
  clear hB
  by_cases q1 : e1 = 0
  case neg =>
    have r1 : (e1 != 0) = true := by simpa using q1
    clear q1
    go_wp2_with fail
    refine (HAW.out _ HB8.out).mono ?_
    rintro e w9 ⟨rfl, hB9⟩
    have HB9 := Lib.hid hB9
    clear hB9
    go_wp2_with fail
    go_ret
    exact ⟨rfl, HB9.out⟩
  by_cases q2 : e2 = 0
  case neg =>
    subst q1
    have r1 : (e2 != 0) = true := by simpa using q2
    clear q2
    go_wp2_with fail
    refine (HAW.out _ HB8.out).mono ?_
    rintro e w9 ⟨rfl, hB9⟩
    have HB9 := Lib.hid hB9
    clear hB9
    go_wp2_with fail
    go_ret
    exact ⟨rfl, HB9.out⟩
  by_cases q3 : e3 = 0
  case neg =>
    subst q1 q2
    have r1 : (e3 != 0) = true := by simpa using q3
    clear q3
    go_wp2_with fail
    refine (HAW.out _ HB8.out).mono ?_
    rintro e w9 ⟨rfl, hB9⟩
    have HB9 := Lib.hid hB9
    clear hB9
    go_wp2_with fail
    go_ret
    exact ⟨rfl, HB9.out⟩
  by_cases q4 : e4 = 0
  case neg =>
    subst q1 q2 q3
    have r1 : (e4 != 0) = true := by simpa using q4
    clear q4
    go_wp2_with fail
    refine (HAW.out _ HB8.out).mono ?_
    rintro e w9 ⟨rfl, hB9⟩
    have HB9 := Lib.hid hB9
    clear hB9
    go_wp2_with fail
    go_ret
    exact ⟨rfl, HB9.out⟩
  subst q1 q2 q3 q4
  have k1 := key1.out rfl rfl
  have k2 := key2.out rfl rfl
  obtain ⟨bb, hbb⟩ : ∃ b, decide (ns = ms) = b := ⟨_, rfl⟩
  have z1 : ((bs s).toList == (bs t).toList) = bb := by rw [bs_same, ← hbb]; exact decide_eq_decide.2 k1
  have z2 : ((bs u).toList == (bs v).toList) = bb := by rw [bs_same, ← hbb]; exact decide_eq_decide.2 k2
  have HBB := Lib.hid hbb
  have CS := Lib.hid (fun (W : World) (hB : Below w.heap.size w W) => by have := T.same_any A B c d ns ms W (HA.out.later hB) (HB.out.later hB) (by have := Hlen.out; omega) (by have := Hlen2.out; omega); rw [hbb] at this; exact this)
  clear k1 k2 hbb
  cases bb with
  | true =>
    have y1 := eq_of_beq z1
    have y2 := eq_of_beq z2
    go_wp2_with fail
    refine (CS.out _ HB8.out).mono ?_
    rintro e w9 ⟨rfl, hB9⟩
    have HB9 := Lib.hid (HB8.out.trans (hB9.mono HB8.out.size))
    clear hB9
    go_wp2_with fail
    refine (HAW.out _ HB9.out).mono ?_
    rintro e w10 ⟨rfl, hB10⟩
    have HB10 := Lib.hid hB10
    clear hB10
    go_wp2_with fail
    go_ret
    exact ⟨rfl, HB10.out⟩
  | false =>
    have y1 := ne_of_beq_false z1
    have y2 := ne_of_beq_false z2
    go_wp2_with fail
    refine (CS.out _ HB8.out).mono ?_
    rintro e w9 ⟨rfl, hB9⟩
    have HB9 := Lib.hid (HB8.out.trans (hB9.mono HB8.out.size))
    clear hB9
    go_wp2_with fail
    refine (HAW.out _ HB9.out).mono ?_
    rintro e w10 ⟨rfl, hB10⟩
    have HB10 := Lib.hid hB10
    clear hB10
    go_wp2_with fail
    go_ret
    exact ⟨rfl, HB10.out⟩
end Go.Proofs.YtffkaphbgfdpaaaGreatDoor
