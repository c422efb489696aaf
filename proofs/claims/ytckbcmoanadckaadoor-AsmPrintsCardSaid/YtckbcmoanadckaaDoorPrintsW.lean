/- riddlelaw3.AsmPrints: it answers true. -/
import Derived.Test.YtckbcmoanadckaaDoorPrintR
import Derived.Test.YtckbcmoanadckaaDoorInsns2
namespace Go.Proofs.YtckbcmoanadckaaDoor
open Go.RowKit Go.Shelf Go.Deep
set_option linter.unusedVariables false
set_option linter.unusedSimpArgs false

set_option maxRecDepth 100000 in
set_option maxHeartbeats 3200000 in
theorem prints_law (A : Option Addr) (c : Nat) (ns : List Ins) (m : Int) (w : World) (hA : Rs encN w A ns) (ho : ∀ i ∈ ns, InsOk i) (hn : A = none → c = 0) (hc : ns.length ≤ c) (hr : c * 8 ≤ 140737488351232) (hm : w.cell? ⟨0, 0, none⟩ = some (.int .i64 m)) (ht : Tab10 w) :
    Calls Tryd.prog 4 #[.slice A ns.length c] w fun e w' => e = .returned (.bool true) ∧ Below w.heap.size w w' := by
  have HT := Lib.hid ht
  have Hm := Lib.hid hm
  have HA := Lib.hid hA
  have Ho := Lib.hid ho
  have aw : ∀ W, Below w.heap.size w W → Calls Tryd.prog 11 #[] W fun e w' => e = .returned (.bool true) ∧ Below W.heap.size W w' := fun W hW => awake_any m W (max_later Hm.out hW) (HT.out.later hW)
  have AW := Lib.hid aw
  have hl : ns.length ≤ 17592186043904 := by omega
  have cl : ∀ W, Below w.heap.size w W → _ := fun W hW => lend_any A c ns W (HA.out.later hW) hl hn
  have CL := Lib.hid cl
  have cp := rprint_any A c ns w hA ho (by omega)
  have cq : ∀ W g c2, Rs encN W (some ⟨g, 0, none⟩) ns → Below w.heap.size w W → _ := fun W g c2 h hW => print_any (some ⟨g, 0, none⟩) c2 ns W h Ho.out (HT.out.later hW) (by omega)
  obtain ⟨T, hT⟩ : ∃ T, bs (printT ns) = T := ⟨_, rfl⟩
  obtain ⟨E, hE⟩ : ∃ E, printE ns = E := ⟨_, rfl⟩
  simp only [hT, hE] at cp cq
  have Cp := Lib.hid cp
  have Cq := Lib.hid cq
  clear aw hm ht hA ho cl cp cq hT hE hn hc hr
  go_enter Tryd.func4, Tryd.ntmps4
  go_wp2_with fail
  refine Cp.out.mono ?_
  rintro e w1 ⟨rfl, hB1⟩
  have c1 := CL.out w1 hB1
  have C1 := Lib.hid c1
  have HB1 := Lib.hid hB1
  clear c1 hB1
  go_wp2_with fail
  refine C1.out.mono ?_
  rintro e w2 ⟨g, c2, rfl, hown, hB2⟩
  have hB2 := HB1.out.trans (hB2.mono HB1.out.size)
  have c3 := Cq.out w2 g c2 (Rs.take (OwnG.is encN_ok hown)) hB2
  have C3 := Lib.hid c3
  have HB2 := Lib.hid hB2
  have HO := Lib.hid hown
  clear hown hB2 c3
  go_wp2_with fail
  refine C3.out.mono ?_
  rintro e w3 ⟨rfl, hB3⟩
  have hO3 : OwnG 4 encN 25 w3 w1.heap.size (.slice (some ⟨g, 0, none⟩) (ns.length + 3) c2) (ns ++ marks3) := own_below HO.out hB3
  have hB3 := HB2.out.trans (hB3.mono HB2.out.size)
  have ck := kept_any w1.heap.size g c2 A c ns w3 hO3 (HA.out.later hB3) (by omega)
  have Ck := Lib.hid ck
  have HB3 := Lib.hid hB3
  have Hg := Lib.hid (show w1.heap.size ≤ g from (own_lt hO3 rfl).1)
  clear ck hB3 hO3
  go_wp2_with fail
  refine Ck.out.mono ?_
  rintro e w4 ⟨rfl, hg⟩
  have hB4 := HB3.out.grown hg (by have := HB3.out.size; omega) (fun j e => by cases e; exact Nat.le_trans HB1.out.size Hg.out)
  have ca := AW.out w4 hB4
  have Ca := Lib.hid ca
  have HB4 := Lib.hid hB4
  clear ca hB4 hg
  go_wp2_with fail
  refine Ca.out.mono ?_
  rintro e w8 ⟨rfl, hB8⟩
  have HF := Lib.hid (HB4.out.trans (hB8.mono HB4.out.size))
  clear hB8
  go_wp2_with fail
  go_ret
  exact ⟨rfl, HF.out⟩
end Go.Proofs.YtckbcmoanadckaaDoor
