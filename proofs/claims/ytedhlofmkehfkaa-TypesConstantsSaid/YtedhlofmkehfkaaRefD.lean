/- The document's ranges. -/
import Derived.Test.YtedhlofmkehfkaaRefC
import Derived.Deep.CutBlock
import Derived.Deep.DeepCutAuto
import Derived.Deep.RegionHeld3
import Derived.BigQuiet
namespace Go.Proofs.Ytedhlofmkehfkaa
open Go.RowKit Go.Shelf
set_option linter.unusedVariables false
set_option linter.unusedSimpArgs false

def rangesT (n : Node) : Int := if fitsB n.kind n = false then 124 else if n.kind = 15 ∧ wholeB n = false then 125 else 0
theorem keepR {V V' wr : World} {a c d : Addr} {v x y : Value} (h : V.cell? a = some v ∧ V.cell? c = some x ∧ V.cell? d = some y ∧ Below wr.heap.size wr V) (hb : Below V.heap.size V V') : V'.cell? a = some v ∧ V'.cell? c = some x ∧ V'.cell? d = some y ∧ Below wr.heap.size wr V' :=
  ⟨(hb.cell (World.block_lt_of_cell? V _ h.1)).trans h.1, (hb.cell (World.block_lt_of_cell? V _ h.2.1)).trans h.2.1, (hb.cell (World.block_lt_of_cell? V _ h.2.2.1)).trans h.2.2.1, h.2.2.2.trans (hb.mono h.2.2.2.size)⟩
theorem below_drewN (w : World) (n : Nat) : Below w.heap.size w (w.drewN n) := (Below.refl _ w).trans ⟨rfl, rfl, rfl, Nat.le_refl _, fun _ _ => rfl⟩
theorem quietS {P : Program} {f : FuncId} {args : Array Value} {w : World} {n : Nat} {v : Value}
    (h : Calls P f args (w.drewN n) fun e w' => e = .returned v ∧ w.drewN n = w') : Calls P f args (w.drewN n) fun e w'' => e = .returned v ∧ ∃ m, w'' = w.drewN m := Calls.quiet_of_same (h.mono fun _ _ ⟨a, b⟩ => ⟨a, b.symm⟩)
theorem node_cell {w : World} {b j : Nat} {n : Node} {v : Value} (h : nodeAt w ⟨b, 0, none⟩ = some n) (hv : (encL n)[j]? = some v) : w.cell? ⟨b, j, none⟩ = some v := by
  have := nodeIn_of h j v hv
  rwa [add_plain, Nat.zero_add] at this
set_option maxRecDepth 100000 in
set_option maxHeartbeats 3200000 in
theorem ranges_any (n : Node) (w : World) (hby : n.bytes) : Calls Try.prog 75 #[.agg (enc n)] w fun e w' => e = .returned (.int .i64 (rangesT n)) ∧ Below w.heap.size w w' := by
  obtain ⟨r, hr⟩ : ∃ x, rangesT n = x := ⟨_, rfl⟩
  rw [hr]
  have Hr := Lib.hid hr
  have Hby := Lib.hid hby
  have hn0 : nodeAt (w.alloc (.cells (enc n) 40)) ⟨w.heap.size, 0, none⟩ = some n := nodeAt_new w n _
  have c0 := node_cell hn0 (j := 0) rfl
  have c2 := node_cell hn0 (j := 2) rfl
  have c3 := node_cell hn0 (j := 3) rfl
  have c4 := node_cell hn0 (j := 4) rfl
  have c5 := node_cell hn0 (j := 5) rfl
  have c23 := node_cell hn0 (j := 23) rfl
  have HB0 := Lib.hid ((Below.refl _ w).alloc (Nat.le_refl _) (.cells (enc n) 40))
  have Hn0 := Lib.hid hn0
  clear hr hby hn0
  by_cases k3 : n.kind = 3
  · rw [k3] at c0
    have hf : fitsB n.kind n = (decide (n.size = 1) || decide (n.size = 2) || decide (n.size = 4)) := by rw [k3]; rfl
    have hr := Hr.out
    unfold rangesT at hr
    rw [hf] at hr
    have hk15 : ¬ (n.kind = 15 ∧ wholeB n = false) := by rw [k3]; intro h; omega
    rw [if_neg hk15] at hr
    clear hf hk15 k3
    by_cases s1 : n.size = 1
    · rw [s1] at c4
      have hr0 : r = 0 := by rw [← hr, if_neg (by simp [s1])]
      subst hr0
      clear hr s1
      go_enter Try.func75, Try.ntmps75
      go_upto_region 8 with fail
      go_cut [58] (fun s58 W => s58 = .bool false ∧ Below (w.alloc (.cells (enc n) 40)).heap.size (w.alloc (.cells (enc n) 40)) W)
      case first =>
        go_quiet (fail)
        go_wp2_with fail
        go_meet
        exact ⟨rfl, below_drewN _ _⟩
      case rest =>
        obtain ⟨rfl, hBc⟩ := hcut
        have c0' := (hBc.cell (World.block_lt_of_cell? _ _ c0)).trans c0
        have HBc := Lib.hid hBc
        clear hBc
        go_wp2_with fail
        go_ret
        exact ⟨rfl, HB0.out.trans (HBc.out.mono HB0.out.size)⟩
    by_cases s2 : n.size = 2
    · rw [s2] at c4
      have hr0 : r = 0 := by rw [← hr, if_neg (by simp [s2])]
      subst hr0
      clear hr s2
      go_enter Try.func75, Try.ntmps75
      go_upto_region 8 with fail
      go_cut [58] (fun s58 W => s58 = .bool false ∧ Below (w.alloc (.cells (enc n) 40)).heap.size (w.alloc (.cells (enc n) 40)) W)
      case first =>
        go_quiet (fail)
        go_wp2_with fail
        go_meet
        exact ⟨rfl, below_drewN _ _⟩
      case rest =>
        obtain ⟨rfl, hBc⟩ := hcut
        have c0' := (hBc.cell (World.block_lt_of_cell? _ _ c0)).trans c0
        have HBc := Lib.hid hBc
        clear hBc
        go_wp2_with fail
        go_ret
        exact ⟨rfl, HB0.out.trans (HBc.out.mono HB0.out.size)⟩
    by_cases s4 : n.size = 4
    · rw [s4] at c4
      have hr0 : r = 0 := by rw [← hr, if_neg (by simp [s4])]
      subst hr0
      clear hr s4
      go_enter Try.func75, Try.ntmps75
      go_upto_region 8 with fail
      go_cut [58] (fun s58 W => s58 = .bool false ∧ Below (w.alloc (.cells (enc n) 40)).heap.size (w.alloc (.cells (enc n) 40)) W)
      case first =>
        go_quiet (fail)
        go_wp2_with fail
        go_meet
        exact ⟨rfl, below_drewN _ _⟩
      case rest =>
        obtain ⟨rfl, hBc⟩ := hcut
        have c0' := (hBc.cell (World.block_lt_of_cell? _ _ c0)).trans c0
        have HBc := Lib.hid hBc
        clear hBc
        go_wp2_with fail
        go_ret
        exact ⟨rfl, HB0.out.trans (HBc.out.mono HB0.out.size)⟩
    have hr0 : r = 124 := by rw [← hr, if_pos (by simp [s1, s2, s4])]
    subst hr0
    have s1' : (n.size != 1) = true := by simpa using s1
    have s2' : (n.size != 2) = true := by simpa using s2
    have s4' : (n.size != 4) = true := by simpa using s4
    clear hr s1 s2 s4
    go_enter Try.func75, Try.ntmps75
    go_wp2_with fail
    go_ret
    exact ⟨rfl, HB0.out⟩
  by_cases k12 : n.kind = 12
  · rw [k12] at c0
    have hf : fitsB n.kind n = decide (n.n ≤ 65535) := by rw [k12]; rfl
    have hr := Hr.out
    unfold rangesT at hr
    rw [hf] at hr
    have hk15 : ¬ (n.kind = 15 ∧ wholeB n = false) := by rw [k12]; intro h; omega
    rw [if_neg hk15] at hr
    clear hf hk15 k12
    by_cases hle : n.n ≤ 65535
    · have hr0 : r = 0 := by rw [← hr, if_neg (by simp [hle])]
      subst hr0
      clear hr
      go_enter Try.func75, Try.ntmps75
      go_upto_region 8 with fail
      go_cut [58] (fun s58 W => s58 = .bool false ∧ Below (w.alloc (.cells (enc n) 40)).heap.size (w.alloc (.cells (enc n) 40)) W)
      case first =>
        go_quiet (fail)
        go_wp2_with fail
        go_meet
        exact ⟨rfl, below_drewN _ _⟩
      case rest =>
        obtain ⟨rfl, hBc⟩ := hcut
        have c0' := (hBc.cell (World.block_lt_of_cell? _ _ c0)).trans c0
        have HBc := Lib.hid hBc
        clear hBc
        go_wp2_with fail
        go_ret
        exact ⟨rfl, HB0.out.trans (HBc.out.mono HB0.out.size)⟩
    have hr0 : r = 124 := by rw [← hr, if_pos (by simp [hle])]
    subst hr0
    have hgt : 65535 < n.n := by omega
    clear hr hle
    go_enter Try.func75, Try.ntmps75
    go_wp2_with fail
    go_ret
    exact ⟨rfl, HB0.out⟩
  by_cases k13 : n.kind = 13
  · rw [k13] at c0
    have hf : fitsB n.kind n = decide (n.n ≤ 255) := by rw [k13]; rfl
    have hr := Hr.out
    unfold rangesT at hr
    rw [hf] at hr
    have hk15 : ¬ (n.kind = 15 ∧ wholeB n = false) := by rw [k13]; intro h; omega
    rw [if_neg hk15] at hr
    clear hf hk15 k13
    by_cases hle : n.n ≤ 255
    · have hr0 : r = 0 := by rw [← hr, if_neg (by simp [hle])]
      subst hr0
      clear hr
      go_enter Try.func75, Try.ntmps75
      go_upto_region 8 with fail
      go_cut [58] (fun s58 W => s58 = .bool false ∧ Below (w.alloc (.cells (enc n) 40)).heap.size (w.alloc (.cells (enc n) 40)) W)
      case first =>
        go_quiet (fail)
        go_wp2_with fail
        go_meet
        exact ⟨rfl, below_drewN _ _⟩
      case rest =>
        obtain ⟨rfl, hBc⟩ := hcut
        have c0' := (hBc.cell (World.block_lt_of_cell? _ _ c0)).trans c0
        have HBc := Lib.hid hBc
        clear hBc
        go_wp2_with fail
        go_ret
        exact ⟨rfl, HB0.out.trans (HBc.out.mono HB0.out.size)⟩
    have hr0 : r = 124 := by rw [← hr, if_pos (by simp [hle])]
    subst hr0
    have hgt : 255 < n.n := by omega
    clear hr hle
    go_enter Try.func75, Try.ntmps75
    go_wp2_with fail
    go_ret
    exact ⟨rfl, HB0.out⟩
  by_cases k16 : n.kind = 16
  · rw [k16] at c0
    have hf : fitsB n.kind n = (decide (n.m ≤ 65535) && decide (n.n ≤ n.m)) := by rw [k16]; rfl
    have hr := Hr.out
    unfold rangesT at hr
    rw [hf] at hr
    have hk15 : ¬ (n.kind = 15 ∧ wholeB n = false) := by rw [k16]; intro h; omega
    rw [if_neg hk15] at hr
    clear hf hk15 k16
    by_cases hle : n.m ≤ 65535
    · by_cases hle2 : n.n ≤ n.m
      · have hr0 : r = 0 := by rw [← hr, if_neg (by simp [hle, hle2])]
        subst hr0
        clear hr
        go_enter Try.func75, Try.ntmps75
        go_upto_region 8 with fail
        go_cut [58] (fun s58 W => s58 = .bool false ∧ Below (w.alloc (.cells (enc n) 40)).heap.size (w.alloc (.cells (enc n) 40)) W)
        case first =>
          go_quiet (fail)
          go_wp2_with fail
          go_meet
          exact ⟨rfl, below_drewN _ _⟩
        case rest =>
          obtain ⟨rfl, hBc⟩ := hcut
          have c0' := (hBc.cell (World.block_lt_of_cell? _ _ c0)).trans c0
          have HBc := Lib.hid hBc
          clear hBc
          go_wp2_with fail
          go_ret
          exact ⟨rfl, HB0.out.trans (HBc.out.mono HB0.out.size)⟩
      have hr0 : r = 124 := by rw [← hr, if_pos (by simp [hle2])]
      subst hr0
      have hgt : n.m < n.n := by omega
      clear hr hle2
      go_enter Try.func75, Try.ntmps75
      go_wp2_with fail
      go_ret
      exact ⟨rfl, HB0.out⟩
    have hr0 : r = 124 := by rw [← hr, if_pos (by simp [hle])]
    subst hr0
    have hgt : 65535 < n.m := by omega
    clear hr hle
    go_enter Try.func75, Try.ntmps75
    go_wp2_with fail
    go_ret
    exact ⟨rfl, HB0.out⟩
  by_cases k15 : n.kind = 15
  · rw [k15] at c0
    have hf : fitsB n.kind n = bitsB n := by rw [k15]; rfl
    have hr := Hr.out
    unfold rangesT at hr
    rw [hf] at hr
    have K15 := Lib.hid k15
    clear hf k15 k3 k12 k13 k16 Hr
    by_cases o3 : n.of = 3
    · have HO3 := Lib.hid o3
      rw [o3] at c5
      clear o3
      have Hlong := Lib.hid (show ∀ w, Calls Try.prog 87 #[.int .i64 3] w fun e w' => e = .returned (.int .i64 16) ∧ w = w' from fun w => by have := long_any 3 w; rwa [if_pos rfl] at this)
      have HwI := Lib.hid (show widthI n = 16 from by unfold widthI; rw [if_pos HO3.out])
      have hbB : bitsB n = inR n.bits 0 128 := by unfold bitsB; rw [HwI.out]; rfl
      have HbB := Lib.hid hbB
      have Hrr := Lib.hid hr
      clear hr hbB
      go_enter Try.func75, Try.ntmps75
      go_upto_region 8 with fail
      go_cut [58] (fun s58 W => s58 = .bool (!bitsB n) ∧ Below (w.alloc (.cells (enc n) 40)).heap.size (w.alloc (.cells (enc n) 40)) W)
      case first =>
        go_quiet (first | (go_at_call 87; exact quietS (Hlong.out _)) | (go_at_call 86; exact quietS (between_any _ _ _ _)))
        go_wp2_with fail
        go_meet
        exact ⟨by rw [HbB.out], below_drewN _ _⟩
      case rest =>
        obtain ⟨rfl, hBc⟩ := hcut
        have c0' := (hBc.cell (World.block_lt_of_cell? _ _ c0)).trans c0
        have c5' := (hBc.cell (World.block_lt_of_cell? _ _ c5)).trans c5
        have c23' := (hBc.cell (World.block_lt_of_cell? _ _ c23)).trans c23
        have Hnc := Lib.hid (nodeAt_later hBc Hn0.out)
        have HBc := Lib.hid (HB0.out.trans (hBc.mono HB0.out.size))
        have hr := Hrr.out
        clear hBc c0 c2 c3 c4 c5 c23
        obtain ⟨bb, hbb⟩ : ∃ x, bitsB n = x := ⟨_, rfl⟩
        rw [hbb] at hr ⊢
        have Hbb := Lib.hid hbb
        clear hbb
        cases bb with
        | false =>
          rw [if_pos rfl] at hr
          subst hr
          go_wp2_with fail
          go_ret
          exact ⟨rfl, HBc.out⟩
        | true =>
          rw [if_neg (by simp)] at hr
          have hin := HbB.out
          rw [Hbb.out] at hin
          have hin2 : 0 ≤ n.bits ∧ n.bits ≤ 128 := by
            unfold inR at hin
            have h := hin.symm
            simpa using h
          obtain ⟨b0, b1⟩ := hin2
          have Hrr2 := Lib.hid hr
          clear hr hin
          go_wp2_with fail
          refine (Hlong.out _).mono ?_
          rintro e w3 ⟨rfl, rfl⟩
          have hxs : (n.addr.list.take 16).length = 16 := rfl
          have hxb : ∀ x ∈ n.addr.list.take 16, isByte x := fun x hx => Hby.out x (List.mem_of_mem_take hx)
          have hrd := encA_rd Hnc.out 16 (by omega)
          have hwB : wholeB n = decide (netL n.bits (n.addr.list.take 16) 0 = n.addr.list.take 16) := by unfold wholeB; rw [HwI.out]; rfl
          obtain ⟨xs, hxse⟩ : ∃ l, n.addr.list.take 16 = l := ⟨_, rfl⟩
          rw [hxse] at hxs hxb hrd hwB
          have Hxs := Lib.hid hxs
          have Hxb := Lib.hid hxb
          have Hrd := Lib.hid hrd
          have HwB := Lib.hid hwB
          clear hxse hxs hxb hrd hwB
          go_wp2_with fail
          refine (mask_any w.heap.size 7 16 16 n.bits xs wc Hxs.out Hrd.out Hxb.out (by omega) b0 b1).mono ?_
          rintro e w4 ⟨gm, capm, rfl, hM, hge, hB4⟩
          have HM := Lib.hid hM
          have Hrd4 := Lib.hid (Hrd.out.later hB4)
          have HB4 := Lib.hid (HBc.out.trans (hB4.mono HBc.out.size))
          clear hM hge hB4
          go_wp2_with fail
          go_loopw [5] (fun x wr => ∃ i : Nat, i ≤ 16 ∧ x = .int .i64 i ∧ (∀ j, j < i → xs.getD j 0 = (netL n.bits xs 0).getD j 0) ∧ Below w4.heap.size w4 wr) (fun x _ => 16 - (intOf x).toNat)
          case atStart => exact ⟨0, by omega, rfl, fun j hj => by omega, Below.refl _ _⟩
          case round =>
            obtain ⟨i, hi, rfl, hz, hB⟩ := hrel
            have Hz := Lib.hid hz
            have HB := Lib.hid hB
            clear hz hB
            by_cases hlt : i < 16
            · have ca := (Hrd4.out.later HB.out) i _ (nums_get .u8 xs i (by have := Hxs.out; omega))
              have cm0 := HM.out.cell hlt
              have cm := (HB.out.cell (World.block_lt_of_cell? _ _ cm0)).trans cm0
              obtain ⟨x, hx⟩ : ∃ x, xs.getD i 0 = x := ⟨_, rfl⟩
              obtain ⟨y, hy⟩ : ∃ x, (netL n.bits xs 0).getD i 0 = x := ⟨_, rfl⟩
              rw [hx] at ca
              simp only [hy] at cm
              have Hxe := Lib.hid hx
              have Hye := Lib.hid hy
              have i1 : (i : Int) < 16 := by omega
              have i2 : (0 : Int) ≤ (i : Int) := by omega
              clear cm0 hx hy
              go_upto_region 16 with fail
              go_cut [98] (fun s98 W => s98 = .bool (x != y) ∧ Below wr.heap.size wr W)
              case first =>
                go_quiet (fail)
                go_wp2_with fail
                go_meet
                exact ⟨rfl, below_drewN _ _⟩
              case rest =>
                obtain ⟨rfl, hBd⟩ := hcut
                have HBd := Lib.hid (HB.out.trans (hBd.mono HB.out.size))
                clear hBd ca cm
                by_cases hxy : x = y
                · have hne : (x != y) = false := by simpa using hxy
                  rw [hne]
                  have Hxy := Lib.hid hxy
                  clear hxy hne
                  go_wp2_with fail
                  go_round
                  case rel =>
                    refine ⟨i + 1, by omega, by go_num, fun j hj => ?_, HBd.out⟩
                    by_cases hji : j = i
                    · rw [hji, Hxe.out, Hye.out]; exact Hxy.out
                    · exact Hz.out j (by omega)
                  case measure => simp [intOf]; omega
                · have hne : (x != y) = true := by simpa using hxy
                  rw [hne]
                  have hwf : wholeB n = false := by
                    rw [HwB.out]
                    refine decide_eq_false fun h => hxy ?_
                    rw [← Hxe.out, ← Hye.out, h]
                  have hr := Hrr2.out
                  rw [if_pos ⟨K15.out, hwf⟩] at hr
                  subst hr
                  clear hxy hne hwf
                  go_wp2_with fail
                  go_ret
                  exact ⟨rfl, HB4.out.trans (HBd.out.mono HB4.out.size)⟩
            · have hin : i = 16 := by omega
              have hwt : wholeB n = true := by
                rw [HwB.out]
                refine decide_eq_true (List.ext_getElem? fun j => ?_)
                have hlx := Hxs.out
                have hln := netL_length n.bits xs 0
                by_cases hj : j < 16
                · have := Hz.out j (by omega)
                  rw [List.getD_eq_getElem?_getD, List.getD_eq_getElem?_getD, List.getElem?_eq_getElem (by omega), List.getElem?_eq_getElem (by omega)] at this
                  rw [List.getElem?_eq_getElem (by omega), List.getElem?_eq_getElem (by omega)]
                  simpa using this.symm
                · rw [List.getElem?_eq_none (by omega), List.getElem?_eq_none (by omega)]
              have hr := Hrr2.out
              rw [if_neg (by rw [hwt]; simp)] at hr
              subst hr
              have hi1 : ¬ (i : Int) < 16 := by omega
              clear hwt hin hlt hi
              go_wp2_with fail
              go_ret
              exact ⟨rfl, HB4.out.trans (HB.out.mono HB4.out.size)⟩
    have HO3 := Lib.hid o3
    clear o3
    have Hlong := Lib.hid (show ∀ w, Calls Try.prog 87 #[.int .i64 n.of] w fun e w' => e = .returned (.int .i64 4) ∧ w = w' from fun w => by have := long_any n.of w; rwa [if_neg HO3.out] at this)
    have HwI := Lib.hid (show widthI n = 4 from by unfold widthI; rw [if_neg HO3.out])
    have hbB : bitsB n = inR n.bits 0 32 := by unfold bitsB; rw [HwI.out]; rfl
    have HbB := Lib.hid hbB
    have Hrr := Lib.hid hr
    clear hr hbB
    go_enter Try.func75, Try.ntmps75
    go_upto_region 8 with fail
    go_cut [58] (fun s58 W => s58 = .bool (!bitsB n) ∧ Below (w.alloc (.cells (enc n) 40)).heap.size (w.alloc (.cells (enc n) 40)) W)
    case first =>
      go_quiet (first | (go_at_call 87; exact quietS (Hlong.out _)) | (go_at_call 86; exact quietS (between_any _ _ _ _)))
      go_wp2_with fail
      go_meet
      exact ⟨by rw [HbB.out], below_drewN _ _⟩
    case rest =>
      obtain ⟨rfl, hBc⟩ := hcut
      have c0' := (hBc.cell (World.block_lt_of_cell? _ _ c0)).trans c0
      have c5' := (hBc.cell (World.block_lt_of_cell? _ _ c5)).trans c5
      have c23' := (hBc.cell (World.block_lt_of_cell? _ _ c23)).trans c23
      have Hnc := Lib.hid (nodeAt_later hBc Hn0.out)
      have HBc := Lib.hid (HB0.out.trans (hBc.mono HB0.out.size))
      have hr := Hrr.out
      clear hBc c0 c2 c3 c4 c5 c23
      obtain ⟨bb, hbb⟩ : ∃ x, bitsB n = x := ⟨_, rfl⟩
      rw [hbb] at hr ⊢
      have Hbb := Lib.hid hbb
      clear hbb
      cases bb with
      | false =>
        rw [if_pos rfl] at hr
        subst hr
        go_wp2_with fail
        go_ret
        exact ⟨rfl, HBc.out⟩
      | true =>
        rw [if_neg (by simp)] at hr
        have hin := HbB.out
        rw [Hbb.out] at hin
        have hin2 : 0 ≤ n.bits ∧ n.bits ≤ 32 := by
          unfold inR at hin
          have h := hin.symm
          simpa using h
        obtain ⟨b0, b1⟩ := hin2
        have Hrr2 := Lib.hid hr
        clear hr hin
        go_wp2_with fail
        refine (Hlong.out _).mono ?_
        rintro e w3 ⟨rfl, rfl⟩
        have hxs : (n.addr.list.take 4).length = 4 := rfl
        have hxb : ∀ x ∈ n.addr.list.take 4, isByte x := fun x hx => Hby.out x (List.mem_of_mem_take hx)
        have hrd := encA_rd Hnc.out 4 (by omega)
        have hwB : wholeB n = decide (netL n.bits (n.addr.list.take 4) 0 = n.addr.list.take 4) := by unfold wholeB; rw [HwI.out]; rfl
        obtain ⟨xs, hxse⟩ : ∃ l, n.addr.list.take 4 = l := ⟨_, rfl⟩
        rw [hxse] at hxs hxb hrd hwB
        have Hxs := Lib.hid hxs
        have Hxb := Lib.hid hxb
        have Hrd := Lib.hid hrd
        have HwB := Lib.hid hwB
        clear hxse hxs hxb hrd hwB
        go_wp2_with fail
        refine (mask_any w.heap.size 7 4 16 n.bits xs wc Hxs.out Hrd.out Hxb.out (by omega) b0 b1).mono ?_
        rintro e w4 ⟨gm, capm, rfl, hM, hge, hB4⟩
        have HM := Lib.hid hM
        have Hrd4 := Lib.hid (Hrd.out.later hB4)
        have HB4 := Lib.hid (HBc.out.trans (hB4.mono HBc.out.size))
        clear hM hge hB4
        go_wp2_with fail
        go_loopw [5] (fun x wr => ∃ i : Nat, i ≤ 4 ∧ x = .int .i64 i ∧ (∀ j, j < i → xs.getD j 0 = (netL n.bits xs 0).getD j 0) ∧ Below w4.heap.size w4 wr) (fun x _ => 4 - (intOf x).toNat)
        case atStart => exact ⟨0, by omega, rfl, fun j hj => by omega, Below.refl _ _⟩
        case round =>
          obtain ⟨i, hi, rfl, hz, hB⟩ := hrel
          have Hz := Lib.hid hz
          have HB := Lib.hid hB
          clear hz hB
          by_cases hlt : i < 4
          · have ca := (Hrd4.out.later HB.out) i _ (nums_get .u8 xs i (by have := Hxs.out; omega))
            have cm0 := HM.out.cell hlt
            have cm := (HB.out.cell (World.block_lt_of_cell? _ _ cm0)).trans cm0
            obtain ⟨x, hx⟩ : ∃ x, xs.getD i 0 = x := ⟨_, rfl⟩
            obtain ⟨y, hy⟩ : ∃ x, (netL n.bits xs 0).getD i 0 = x := ⟨_, rfl⟩
            rw [hx] at ca
            simp only [hy] at cm
            have Hxe := Lib.hid hx
            have Hye := Lib.hid hy
            have i1 : (i : Int) < 4 := by omega
            have i2 : (0 : Int) ≤ (i : Int) := by omega
            clear cm0 hx hy
            go_upto_region 16 with fail
            go_cut [98] (fun s98 W => s98 = .bool (x != y) ∧ Below wr.heap.size wr W)
            case first =>
              go_quiet (fail)
              go_wp2_with fail
              go_meet
              exact ⟨rfl, below_drewN _ _⟩
            case rest =>
              obtain ⟨rfl, hBd⟩ := hcut
              have HBd := Lib.hid (HB.out.trans (hBd.mono HB.out.size))
              clear hBd ca cm
              by_cases hxy : x = y
              · have hne : (x != y) = false := by simpa using hxy
                rw [hne]
                have Hxy := Lib.hid hxy
                clear hxy hne
                go_wp2_with fail
                go_round
                case rel =>
                  refine ⟨i + 1, by omega, by go_num, fun j hj => ?_, HBd.out⟩
                  by_cases hji : j = i
                  · rw [hji, Hxe.out, Hye.out]; exact Hxy.out
                  · exact Hz.out j (by omega)
                case measure => simp [intOf]; omega
              · have hne : (x != y) = true := by simpa using hxy
                rw [hne]
                have hwf : wholeB n = false := by
                  rw [HwB.out]
                  refine decide_eq_false fun h => hxy ?_
                  rw [← Hxe.out, ← Hye.out, h]
                have hr := Hrr2.out
                rw [if_pos ⟨K15.out, hwf⟩] at hr
                subst hr
                clear hxy hne hwf
                go_wp2_with fail
                go_ret
                exact ⟨rfl, HB4.out.trans (HBd.out.mono HB4.out.size)⟩
          · have hin : i = 4 := by omega
            have hwt : wholeB n = true := by
              rw [HwB.out]
              refine decide_eq_true (List.ext_getElem? fun j => ?_)
              have hlx := Hxs.out
              have hln := netL_length n.bits xs 0
              by_cases hj : j < 4
              · have := Hz.out j (by omega)
                rw [List.getD_eq_getElem?_getD, List.getD_eq_getElem?_getD, List.getElem?_eq_getElem (by omega), List.getElem?_eq_getElem (by omega)] at this
                rw [List.getElem?_eq_getElem (by omega), List.getElem?_eq_getElem (by omega)]
                simpa using this.symm
              · rw [List.getElem?_eq_none (by omega), List.getElem?_eq_none (by omega)]
            have hr := Hrr2.out
            rw [if_neg (by rw [hwt]; simp)] at hr
            subst hr
            have hi1 : ¬ (i : Int) < 4 := by omega
            clear hwt hin hlt hi
            go_wp2_with fail
            go_ret
            exact ⟨rfl, HB4.out.trans (HB.out.mono HB4.out.size)⟩
  have hf : fitsB n.kind n = true := by
    unfold fitsB
    rw [if_neg k3, if_neg k12, if_neg k13, if_neg k15, if_neg k16]
  have hr0 : r = 0 := by
    rw [← Hr.out]
    unfold rangesT
    rw [hf, if_neg (by simp), if_neg (fun h => k15 h.1)]
  subst hr0
  have k3' : (n.kind == 3) = false := by simpa using k3
  have k12' : (n.kind == 12) = false := by simpa using k12
  have k13' : (n.kind == 13) = false := by simpa using k13
  have k15' : (n.kind == 15) = false := by simpa using k15
  have k16' : (n.kind == 16) = false := by simpa using k16
  clear k3 k12 k13 k15 k16 hf Hr
  go_enter Try.func75, Try.ntmps75
  go_upto_region 8 with fail
  go_cut [58] (fun s58 W => s58 = .bool false ∧ Below (w.alloc (.cells (enc n) 40)).heap.size (w.alloc (.cells (enc n) 40)) W)
  case first =>
    go_quiet (fail)
    go_wp2_with fail
    go_meet
    exact ⟨rfl, below_drewN _ _⟩
  case rest =>
    obtain ⟨rfl, hBc⟩ := hcut
    have c0' := (hBc.cell (World.block_lt_of_cell? _ _ c0)).trans c0
    have HBc := Lib.hid hBc
    clear hBc
    go_wp2_with fail
    go_ret
    exact ⟨rfl, HB0.out.trans (HBc.out.mono HB0.out.size)⟩
end Go.Proofs.Ytedhlofmkehfkaa
