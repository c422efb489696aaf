/- LendInsns, KeptInsns. -/
import Derived.Test.YtckbcmoanadckaaDoorInsns
namespace Go.Proofs.YtckbcmoanadckaaDoor
open Go.RowKit Go.Shelf
set_option linter.unusedVariables false
set_option linter.unusedSimpArgs false

abbrev marks3 : List Ins := [markI, markI, markI]
set_option maxRecDepth 100000 in
set_option maxHeartbeats 1000000 in
theorem lend_any (A : Option Addr) (c : Nat) (ns : List Ins) (w : World) (hA : Rs encN w A ns) (hl : ns.length ≤ 17592186043904) (hnil : A = none → c = 0) :
    Calls Tryd.prog 13 #[.slice A ns.length c] w fun e w' => ∃ g c2, e = .returned (.slice (some ⟨g, 0, none⟩) ns.length c2) ∧ OwnG 4 encN 25 w' w.heap.size (.slice (some ⟨g, 0, none⟩) (ns.length + 3) c2) (ns ++ marks3) ∧ Below w.heap.size w w' := by
  obtain ⟨i0, hi0, hz0, hz1, hz2⟩ := info_parts infoInsn
  have Hz0 := Lib.hid hz0
  have Hz1 := Lib.hid hz1
  have Hz2 := Lib.hid hz2
  have cc := copy_any A c ns w hA (by omega) hnil
  have Cc := Lib.hid cc
  clear hz0 hz1 hz2 hA cc hnil
  go_enter Tryd.func13, Tryd.ntmps13
  go_wp2_with fail
  refine Cc.out.mono ?_
  rintro e w1 ⟨g, c2, rfl, hown, hB⟩
  have HO := Lib.hid hown
  have HB := Lib.hid hB
  have hx : ((w1.alloc (.cells (flatG encN marks3).toArray 25)).heap[w1.heap.size]? = some (.cells (flatG encN marks3).toArray 25 (0, 0))) := heap_alloc_new w1 _
  have Hx := Lib.hid (rs_news hx)
  have HO2 := Lib.hid (show (w1.alloc (.cells (flatG encN marks3).toArray 25)).ownsRow w.heap.size 25 4 (.slice (some ⟨g, 0, none⟩) ns.length c2) ns.length (flatG encN ns) from own_later hown fun b hb => Below.heap_alloc _ _ _ (own_lt hown hb).2)
  have HS := Lib.hid hB.size
  clear hown hB hx
  go_wp2_with (at_builtin; refine wpList_append_lies _ rfl _ _ 29 rfl w.heap.size 25 i0 (.agg #[.int .u16 0, .int .u8 0, .int .u8 0, .int .u32 0]) 4 8 Tryd.underlying29 hi0 Hz0.out Hz1.out Hz2.out rfl (by decide) (.slice (some ⟨g, 0, none⟩) ns.length c2) ns.length (flatG encN ns) rfl HO2.out ⟨w1.heap.size, 0, none⟩ 3 3 (flatG encN marks3) (by simp [go_sem]) rfl Hx.out (flatG_one encN_ok _) (by decide) (by simp only [maxLen]; omega) (by omega) (by have := HS.out; simp; omega) (w1.heap.size + 1) (by simp) ?_; intro g2 cap w2 hown hgrow hat hlt; have hcap : (ns.length : Int) ≤ (cap : Int) := by have := own_cap hown; omega)
  go_ret
  refine ⟨g2, cap, rfl, ?_, (HB.out.alloc HS.out _).grown hgrow (by have := HS.out; simp; omega) (fun k e => (own_lt HO.out e).1)⟩
  unfold OwnG
  rw [flatG_append, List.length_append]
  exact hown
set_option maxRecDepth 100000 in
set_option maxHeartbeats 1000000 in
theorem kept_any (base g c : Nat) (A : Option Addr) (d : Nat) (ns : List Ins) (w : World) (hown : OwnG 4 encN 25 w base (.slice (some ⟨g, 0, none⟩) (ns.length + 3) c) (ns ++ marks3)) (hA : Rs encN w A ns) (hn : ns.length ≤ 17592186043904) :
    Calls Tryd.prog 15 #[.slice (some ⟨g, 0, none⟩) ns.length c, .slice A ns.length d] w fun e w' => e = .returned (.bool true) ∧ w.grownBy w' (some g) := by
  have hl3 : (ns ++ marks3).length = ns.length + 3 := by simp
  have hcap : (ns.length : Int) + 3 ≤ (c : Int) := by
    have := own_cap hown
    omega
  have hNs : Rs encN w (some ⟨g, 0, none⟩) (ns ++ marks3) := OwnG.is encN_ok hown
  have h1 := hNs.take
  have h2 := Rs.sub encN_ok hNs
  rw [Nat.zero_add] at h2
  have hO : w.ownsRow base 25 4 (.slice (some ⟨g, 0, none⟩) (ns.length + 3) c) (ns.length + 3) (flatG encN (ns ++ marks3)) := by
    have := hown
    unfold OwnG at this
    rw [hl3] at this
    exact this
  have c1 := same_any _ _ c d ns ns w h1 hA (by omega) (by omega)
  rw [show decide (ns = ns) = true from by simp] at c1
  have C1 := Lib.hid c1
  have H2 := Lib.hid h2
  have HA := Lib.hid hA
  have HO := Lib.hid hO
  clear hown hNs h1 h2 hA hl3 hO c1
  go_enter Tryd.func15, Tryd.ntmps15
  go_wp2_with fail
  refine C1.out.mono ?_
  rintro e w1 ⟨rfl, hB1⟩
  have hB2 : Below w.heap.size w (w1.alloc (.cells (flatG encN marks3).toArray 25)) := hB1.alloc hB1.size _
  have c2 := same_any (some ⟨g, ns.length * 4, none⟩) (some ⟨w1.heap.size, 0, none⟩) (c - ns.length) 3 marks3 marks3 _ (H2.out.later hB2) rs_new (by decide) (by decide)
  rw [show decide (marks3 = marks3) = true from by decide] at c2
  have C2 := Lib.hid c2
  have HB2 := Lib.hid hB2
  clear hB1 hB2 c2
  go_wp2_with fail
  refine C2.out.mono ?_
  rintro e w2 ⟨rfl, hB3⟩
  have hB4 : Below w.heap.size w w2 := HB2.out.trans (hB3.mono (by have := HB2.out.size; omega))
  have hO2 : w2.ownsRow base 25 4 (.slice (some ⟨g, 0, none⟩) (ns.length + 3) c) (ns.length + 3) (flatG encN (ns ++ marks3)) := own_later HO.out fun b hb => hB4.block b (own_lt HO.out hb).2
  have c3 := spoil_any base (some ⟨g, 0, none⟩) (ns.length + 3) c _ w2 hO2 (by omega)
  have C3 := Lib.hid c3
  have HB4 := Lib.hid hB4
  clear hB3 hB4 hO2 c3
  go_wp2_with fail
  refine C3.out.mono ?_
  rintro e w3 ⟨rfl, hg⟩
  have HG := Lib.hid hg
  clear hg
  go_wp2_with fail
  go_ret
  exact ⟨rfl, World.grownBy.trans ⟨HB4.out.os, HB4.out.tape, HB4.out.output, HB4.out.size, fun i hi _ => HB4.out.block i hi⟩ HG.out⟩
end Go.Proofs.YtckbcmoanadckaaDoor
