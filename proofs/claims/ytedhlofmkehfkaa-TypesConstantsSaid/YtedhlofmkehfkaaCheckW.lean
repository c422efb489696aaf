/- TypesChecks: the walk. -/
import Derived.Test.YtedhlofmkehfkaaRefG
import Derived.Test.YtedhlofmkehfkaaAwake
namespace Go.Proofs.Ytedhlofmkehfkaa
open Go.RowKit Go.Shelf
set_option linter.unusedVariables false
set_option linter.unusedSimpArgs false

set_option maxRecDepth 100000 in
set_option maxHeartbeats 3200000 in
theorem checks_law (A : Option Addr) (c : Nat) (ns : List Node) (w : World) (hA : Ns w A ns) (hok : NodesOk ns) (hnA : A = none → c = 0) (hcA : ns.length ≤ c) (hrA : c ≤ 1954687338211) :
    Calls Try.prog 3 #[.slice A ns.length c] w fun e w' => e = .returned (.bool true) ∧ Below w.heap.size w w' := by
  have HA := Lib.hid hA
  have Hok := Lib.hid hok
  have Hn := Lib.hid hnA
  have Hlen := Lib.hid hok.len
  clear hA hok hnA hrA hcA
  go_enter Try.func3, Try.ntmps3
  go_wp2_with fail
  refine (refcheck_any A c ns w HA.out Hok.out).mono ?_
  rw [ref_check]
  obtain ⟨r, hr⟩ : ∃ r, checkT ns = r := ⟨_, rfl⟩
  rw [hr]
  have Hr := Lib.hid hr
  obtain ⟨at_, code⟩ := r
  simp only
  rintro e w1 ⟨rfl, hB1⟩
  have HB1 := Lib.hid hB1
  clear hr hB1
  go_wp2_with fail
  refine (lend_any A c ns w1 (HA.out.later HB1.out) Hlen.out Hn.out).mono ?_
  rintro e w2 ⟨gL, cL, rfl, hownL, hB2⟩
  have HL := Lib.hid hownL
  have HB2 := Lib.hid hB2
  clear hownL hB2
  have hNL : Ns w2 (some ⟨gL, 0, none⟩) ns := by
    have h := HL.out.is
    have := h.prefix ns.length
    rwa [List.take_left] at this
  have HNL := Lib.hid hNL
  clear hNL
  go_wp2_with fail
  refine (check_any (some ⟨gL, 0, none⟩) cL ns w2 HNL.out Hok.out).mono ?_
  rw [Hr.out]
  simp only
  rintro e w3 ⟨rfl, hB3⟩
  have HB3 := Lib.hid hB3
  clear hB3
  go_wp2_with fail
  refine (kept_any w1.heap.size gL cL A c ns w3 (own_later HL.out fun b hb => HB3.out.block b (own_lt HL.out hb).2) (((HA.out.later HB1.out).later HB2.out).later HB3.out) Hlen.out).mono ?_
  rintro e w4 ⟨rfl, hG4⟩
  have HG4 := Lib.hid hG4
  clear hG4
  have hqL := own_lt HL.out (b := gL) rfl
  have hB4 : Below w1.heap.size w3 w4 := (Below.refl w1.heap.size w3).grown HG4.out (Nat.le_trans HB2.out.size HB3.out.size) fun k e => by cases e; exact hqL.1
  have hB14 : Below w1.heap.size w1 w4 := (HB2.out.trans (HB3.out.mono HB2.out.size)).trans hB4
  have HB4 := Lib.hid (HB1.out.trans (hB14.mono HB1.out.size))
  clear hB4 hB14 hqL
  go_wp2_with fail
  refine (awake_any _).mono ?_
  rintro e w5 ⟨rfl, hb5⟩
  have HB5 := Lib.hid (HB4.out.trans (hb5.mono HB4.out.size))
  clear hb5
  go_wp2_with fail
  go_ret
  exact ⟨rfl, HB5.out⟩
end Go.Proofs.Ytedhlofmkehfkaa
