/- types.Constant, types.Weight. -/
import Derived.Test.YtedhlofmkehfkaaChk
namespace Go.Proofs.Ytedhlofmkehfkaa
open Go.RowKit Go.Shelf
set_option linter.unusedVariables false
set_option linter.unusedSimpArgs false

set_option maxRecDepth 100000 in
set_option maxHeartbeats 1600000 in
theorem const_any (A : Option Addr) (c : Nat) (ns : List Node) (w : World) (hA : Ns w A ns) (hok : NodesOk ns) :
    Calls Try.prog 17 #[.slice A ns.length c] w fun e w' => e = .returned (.tuple #[.int .u32 (constT ns).1, .bool (constT ns).2]) ∧ Below w.heap.size w w' := by
  have HA := Lib.hid hA
  have HO := Lib.hid hok
  have hnl := hok.len
  clear hA hok
  go_enter Try.func17, Try.ntmps17
  go_wp2_with fail
  refine (through_any A c ns _ HA.out HO.out).mono ?_
  rintro e w1 ⟨r, hi, kb, rfl, hB, hr, hW⟩
  have HB := Lib.hid hB
  have HW := Lib.hid hW
  obtain ⟨code, hcode⟩ : ∃ x, (runT ns 0 [] []).2.1 = x := ⟨_, rfl⟩
  obtain ⟨place, hplace⟩ : ∃ x, (runT ns 0 [] []).1 = x := ⟨_, rfl⟩
  rw [hcode, hplace]
  have Hcode := Lib.hid hcode
  clear hB hW hcode hplace
  by_cases hc0 : code = 0
  · subst hc0
    have hW1 := HW.out Hcode.out
    obtain ⟨hk, hlen, hpos⟩ := runT_ok ns 0 [] [] Hcode.out
    rw [List.length_nil, Nat.zero_add] at hlen hpos
    obtain ⟨vs, vp, hR⟩ := hW1.row
    obtain ⟨B, cp, rfl, hBp⟩ := ownP_form hR.ps
    have hpl := hW1.len
    rw [hlen] at hpl
    obtain ⟨gp, rfl, hgp, hcell⟩ := hBp (by omega)
    have d0 := hcell (ns.length - 1) (by omega) 0 _ rfl
    have d1 := hcell (ns.length - 1) (by omega) 1 _ rfl
    have d2 := hcell (ns.length - 1) (by omega) 2 _ rfl
    rw [Nat.add_zero] at d0
    have k2 : w1.cell? ⟨kb, 2, none⟩ = some (.slice (some ⟨gp, 0, none⟩) ns.length cp) := by rw [cell_of_row w1 kb 2 _ _ _ hR.row, ← hpl]; rfl
    obtain ⟨P, hP⟩ : ∃ P, (runT ns 0 [] []).2.2.2.getD (ns.length - 1) Part.zero = P := ⟨_, rfl⟩
    rw [hP] at d0 d1 d2
    have HP := Lib.hid hP
    have i0 : (0 : Int) ≤ (ns.length : Int) - 1 := by omega
    have i1 : (ns.length : Int) - 1 < (ns.length : Int) := by omega
    clear hW1 hk hlen hR hBp hpl hcell hP HW
    obtain ⟨tr, htr⟩ : ∃ b, P.constant = b := ⟨_, rfl⟩
    obtain ⟨v, hv⟩ : ∃ b, P.value = b := ⟨_, rfl⟩
    rw [htr] at d1
    rw [hv] at d2
    have Htr := Lib.hid htr
    have Hv := Lib.hid hv
    clear htr hv
    cases tr with
    | false =>
      have hres : constT ns = (0, false) := by
        unfold constT
        rw [if_neg (by rw [Hcode.out]; simp), HP.out, if_pos Htr.out]
      have Hres := Lib.hid hres
      clear hres
      go_wp2_with fail
      go_ret2
      rw [Hres.out]
      exact ⟨rfl, HB.out.alloc HB.out.size _⟩
    | true =>
      have hres : constT ns = (v, true) := by
        unfold constT
        rw [if_neg (by rw [Hcode.out]; simp), HP.out, if_neg (by rw [Htr.out]; simp), Hv.out]
      have Hres := Lib.hid hres
      clear hres
      go_wp2_with fail
      go_ret2
      rw [Hres.out]
      exact ⟨rfl, HB.out.alloc HB.out.size _⟩
  · have hcb : (code == 0) = false := by simp [hc0]
    have hres : constT ns = (0, false) := by
      unfold constT
      rw [Hcode.out, if_pos hc0]
    have Hres := Lib.hid hres
    clear hres
    go_wp2_with fail
    go_ret2
    rw [Hres.out]
    exact ⟨rfl, HB.out⟩
/-- The weight of a list. -/
def weightT (ns : List Node) : Int := (ns.map fun n => weightI n.kind n).sum
theorem weightI_none {k : Int} (h : k < 1 ∨ 16 < k) (n : Node) : weightI k n = 0 := by
  unfold weightI
  repeat rw [if_neg (by omega)]
theorem weightT_range (ns : List Node) : 0 ≤ weightT ns ∧ weightT ns ≤ 80 * ns.length := by
  unfold weightT
  induction ns with
  | nil => exact ⟨by decide, by decide⟩
  | cons n ns ih =>
    have := weightI_range n.kind n
    rw [List.map_cons, List.sum_cons, List.length_cons]
    omega
set_option maxRecDepth 100000 in
set_option maxHeartbeats 1600000 in
theorem weight_any (A : Option Addr) (c : Nat) (ns : List Node) (w : World) (hA : Ns w A ns) (hnl : ns.length ≤ 2000000000000) :
    Calls Try.prog 18 #[.slice A ns.length c] w fun e w' => e = .returned (.int .i64 (weightT ns)) ∧ Below w.heap.size w w' := by
  have HA := Lib.hid hA
  clear hA
  go_enter Try.func18, Try.ntmps18
  go_wp2_with fail
  refine (table_any _).mono ?_
  rintro e w1 ⟨r, rfl, hT⟩
  have hB1 : Below w.heap.size w w1 := by rw [hT.base]; exact hT.below
  have hT1 : TabAt r w1.heap.size w1 := ⟨hT.out, hT.lt, Nat.le_refl _⟩
  obtain ⟨hi, hhi⟩ : ∃ h, w1.heap.size = h := ⟨_, rfl⟩
  rw [hhi] at hT1
  have HB1 := Lib.hid hB1
  have HT := Lib.hid hT1
  clear hT hB1 hT1 hhi
  go_wp2_with fail
  go_loopw [12, 4] (fun x y wr => ∃ (i : Nat), i ≤ ns.length ∧ x = .int .i64 i ∧ y = .int .i64 (weightT (ns.take i)) ∧ Below w.heap.size w wr ∧ TabAt r hi wr) (fun x _ _ => ns.length - (intOf x).toNat)
  case atStart => exact ⟨0, by omega, rfl, rfl, HB1.out, HT.out⟩
  case round =>
    obtain ⟨i, hi', rfl, rfl, hB2, hT2⟩ := hrel
    have HB2 := Lib.hid hB2
    have HT2 := Lib.hid hT2
    clear hB2 hT2
    by_cases hlt : i < ns.length
    · obtain ⟨b, o, rfl, hn⟩ := (HA.out.later HB2.out) (by omega)
      have h1 := hn i hlt
      obtain ⟨n, hnn⟩ : ∃ n, ns.getD i Node.zero = n := ⟨_, rfl⟩
      rw [hnn] at h1
      have hw := weightT_range (ns.take i)
      have hl : (ns.take i).length ≤ 2000000000000 := by rw [List.length_take]; omega
      have htake : weightT (ns.take (i + 1)) = weightT (ns.take i) + weightI n.kind n := by
        rw [take_succ_node hlt, hnn]
        simp [weightT]
      obtain ⟨s, hs⟩ : ∃ s, weightT (ns.take i) = s := ⟨_, rfl⟩
      rw [hs] at hw htake
      rw [hs]
      have hs0 := hw.1
      have hs1 : s ≤ 80 * 2000000000000 := by omega
      have Htake := Lib.hid htake
      have i2 : (0 : Int) ≤ (i : Int) := by omega
      have i3 : (i : Int) < (ns.length : Int) := by omega
      clear hn hnn hw hl htake hs
      by_cases hkr : 1 ≤ n.kind ∧ n.kind ≤ 16
      · obtain ⟨fu, cu, ff, cf, fg, cg, hg, hL⟩ := HT2.out.looks hkr.1 hkr.2
        obtain ⟨fg1, cg1, hgq, hge, hgc⟩ := hg
        cases hgq
        obtain ⟨tr, htr⟩ : ∃ b, truthK n.kind = b := ⟨_, rfl⟩
        obtain ⟨wa, hwa⟩ : ∃ b, wantsK n.kind = b := ⟨_, rfl⟩
        have hL2 := hL _ ((Below.refl _ wr).alloc (Nat.le_refl _) (.cells (enc n) 40)) true
        rw [htr, hwa] at hL2
        simp only [if_true] at hL2
        have hsz2 := HT2.out.size
        have hwr := weightI_range n.kind n
        obtain ⟨wt, hwt⟩ : ∃ x, weightI n.kind n = x := ⟨_, rfl⟩
        have HGC := Lib.hid hgc
        have Hwt := Lib.hid hwt
        rw [hwt] at hwr
        obtain ⟨hw0, hw1⟩ := hwr
        unfold Enters at hge
        clear hL htr hwa hgc hwt
        go_wp2_with fail
        have B2 : Below wr.heap.size wr ((wr.alloc (.cells (enc n) 40)).alloc (.cells #[.bool tr, .bool wa, .func (.func fu) #[] cu, .func (.func ff) #[] cf, .func (.func fg) #[] cg] 64)) := ((Below.refl _ wr).alloc (Nat.le_refl _) _).alloc (by simp) _
        refine (HGC.out _ (AgreeOn.below B2 hsz2 hsz2) n).mono ?_
        rw [Hwt.out]
        rintro e w4 ⟨rfl, hB4⟩
        have hB5 : Below wr.heap.size wr w4 := B2.trans (hB4.mono B2.size)
        have HB5 := Lib.hid hB5
        clear hB4 hB5 B2
        go_wp2_with fail
        go_round
        case rel => exact ⟨i + 1, by omega, by go_num, by rw [Htake.out, Hwt.out], HB2.out.trans (HB5.out.mono HB2.out.size), HT2.out.below HB5.out hsz2⟩
        case measure => simp [intOf]; omega
      · have hk2 : n.kind < 1 ∨ 16 < n.kind := by omega
        have hL2 := (HT2.out.below ((Below.refl _ wr).alloc (Nat.le_refl _) (.cells (enc n) 40)) HT2.out.size).look_none hk2 _ (fun W => Try.zeroValue64 W)
        have Hk2 := Lib.hid hk2
        clear hk2 hkr
        go_wp2_with fail
        go_round
        case rel =>
          have hbb : Below wr.heap.size wr ((wr.alloc (.cells (enc n) 40)).alloc (.cells #[.bool false, .bool false, .nilFunc, .nilFunc, .nilFunc] 64)) := ((Below.refl _ wr).alloc (Nat.le_refl _) _).alloc (by simp) _
          exact ⟨i + 1, by omega, by go_num, by rw [Htake.out, weightI_none Hk2.out, Int.add_zero], HB2.out.trans (hbb.mono HB2.out.size), HT2.out.below hbb HT2.out.size⟩
        case measure => simp [intOf]; omega
    · have hie : ns.take i = ns := List.take_of_length_le (by omega)
      have hi1 : ¬ (i : Int) < (ns.length : Int) := by omega
      rw [hie]
      clear hie
      go_wp2_with fail
      go_ret
      exact ⟨rfl, HB2.out⟩
end Go.Proofs.Ytedhlofmkehfkaa
