/- TypesConstants: the walk. -/
import Derived.Test.YtedhlofmkehfkaaCheckW
namespace Go.Proofs.Ytedhlofmkehfkaa
open Go.RowKit Go.Shelf
set_option linter.unusedVariables false
set_option linter.unusedSimpArgs false

theorem NodesOk.take {ns : List Node} (h : NodesOk ns) (m : Nat) : NodesOk (ns.take m) :=
  ⟨fun n hn => h.bytes n (List.mem_of_mem_take hn), fun n hn => h.u32 n (List.mem_of_mem_take hn), by have := h.len; rw [List.length_take]; omega⟩
set_option maxRecDepth 100000 in
set_option maxHeartbeats 3200000 in
theorem consts_law (A : Option Addr) (c : Nat) (ns : List Node) (w : World) (hA : Ns w A ns) (hok : NodesOk ns) (hnA : A = none → c = 0) (hcA : ns.length ≤ c) (hrA : c ≤ 1954687338211) :
    Calls Try.prog 4 #[.slice A ns.length c] w fun e w' => e = .returned (.bool true) ∧ Below w.heap.size w w' := by
  have HA := Lib.hid hA
  have Hok := Lib.hid hok
  have Hn := Lib.hid hnA
  have Hlen := Lib.hid hok.len
  have hl := hok.len
  have hcA2 : (ns.length : Int) ≤ (c : Int) := by omega
  clear hA hok hnA hrA hcA
  go_enter Try.func4, Try.ntmps4
  go_wp2_with fail
  go_loopw [3] (fun x wr => ∃ k : Nat, x = .int .i64 ((k : Int) - 1) ∧ k ≤ ns.length + 1 ∧ ns.length ≤ k + 20 ∧ Below w.heap.size w wr) (fun x _ => (intOf x + 1).toNat)
  case atStart => exact ⟨ns.length + 1, by congr 1; omega, by omega, by omega, Below.refl _ _⟩
  case round =>
    obtain ⟨k, rfl, hk1, hk2, hB⟩ := hrel
    have HB := Lib.hid hB
    have Hk2 := Lib.hid hk2
    clear hB hk2
    match k, hk1, Hk2 with
    | 0, hk1, Hk2 =>
      clear hk1
      go_wp2_with fail
      refine (awake_any _).mono ?_
      rintro e w5 ⟨rfl, hb5⟩
      have HB5 := Lib.hid (HB.out.trans (hb5.mono HB.out.size))
      clear hb5
      go_wp2_with fail
      go_ret
      exact ⟨rfl, HB5.out⟩
    | m + 1, hk1, Hk2 =>
      have e1 : ((m + 1 : Nat) : Int) - 1 = (m : Int) := by omega
      rw [e1]
      clear e1
      have i0 : (0 : Int) ≤ (m : Int) := by omega
      have i1 : (m : Int) ≤ (ns.length : Int) := by omega
      have i2 : (m : Int) ≤ (c : Int) := by omega
      have i3 : (ns.length : Int) ≤ 1954687338260 := by omega
      by_cases hge : (ns.length : Int) - 20 ≤ (m : Int)
      · obtain ⟨ms, hms⟩ : ∃ l, ns.take m = l := ⟨_, rfl⟩
        have hml : ms.length = m := by rw [← hms, List.length_take]; omega
        have Hmok := Lib.hid (show NodesOk ms by rw [← hms]; exact Hok.out.take m)
        have Hms := Lib.hid (show Ns w A ms by rw [← hms]; exact HA.out.prefix m)
        have Hml := Lib.hid hml
        have hmL : ms.length ≤ 1954687338260 := Hmok.out.len
        have HmL := Lib.hid hmL
        clear hms hml hmL
        have c1 : ∀ W, Below w.heap.size w W → Calls Try.prog 16 #[.slice A m c] W fun e w' => e = .returned (.tuple #[.int .u32 (constT ms).1, .bool (constT ms).2]) ∧ Below W.heap.size W w' := fun W hW => by
          have := refconst_any A c ms W (Hms.out.later hW) Hmok.out
          rwa [Hml.out, ref_const ms Hmok.out.u32] at this
        have c2 : ∀ W, Below w.heap.size w W → Calls Try.prog 12 #[.slice A m c] W fun e w' => ∃ g c2, e = .returned (.slice (some ⟨g, 0, none⟩) m c2) ∧ OwnN w' W.heap.size (.slice (some ⟨g, 0, none⟩) (ms.length + 3) c2) (ms ++ [mark, mark, mark]) ∧ Below W.heap.size W w' := fun W hW => by
          have := lend_any A c ms W (Hms.out.later hW) HmL.out Hn.out
          rw [Hml.out] at this
          rw [Hml.out]
          exact this
        have c3 : ∀ W, Below w.heap.size w W → Calls Try.prog 19 #[.slice A m c] W fun e w' => e = .returned (.int .i64 (weightT ms)) ∧ Below W.heap.size W w' := fun W hW => by
          have := refweight_any A c ms W (Hms.out.later hW) (by have := HmL.out; omega)
          rwa [Hml.out] at this
        have C1 := Lib.hid c1
        have C2 := Lib.hid c2
        have C3 := Lib.hid c3
        obtain ⟨r, hr⟩ : ∃ r, constT ms = r := ⟨_, rfl⟩
        obtain ⟨wt, hwt⟩ : ∃ r, weightT ms = r := ⟨_, rfl⟩
        have Hr := Lib.hid hr
        have Hwt := Lib.hid hwt
        obtain ⟨v, ok⟩ := r
        clear c1 c2 c3 hr hwt
        have hsl : A = none → m = 0 := fun h => by have := Hn.out h; omega
        have key : ∀ W, Below w.heap.size w W → True := fun _ _ => trivial
        go_wp2_with fail
        refine (C1.out wr HB.out).mono ?_
        rw [Hr.out]
        simp only
        rintro e w1 ⟨rfl, hB1⟩
        have HB1 := Lib.hid (HB.out.trans (hB1.mono HB.out.size))
        clear hB1
        go_wp2_with fail
        refine (C2.out w1 HB1.out).mono ?_
        rintro e w2 ⟨gL, cL, rfl, hownL, hB2⟩
        have HL := Lib.hid hownL
        have HB2 := Lib.hid hB2
        have hNL : Ns w2 (some ⟨gL, 0, none⟩) ms := by
          have h := HL.out.is
          have := h.prefix ms.length
          rwa [List.take_left] at this
        have c4 := const_any (some ⟨gL, 0, none⟩) cL ms w2 hNL Hmok.out
        rw [Hml.out, Hr.out] at c4
        simp only at c4
        have C4 := Lib.hid c4
        have HNL := Lib.hid hNL
        clear hownL hB2 hNL c4
        go_wp2_with fail
        refine C4.out.mono ?_
        rintro e w3 ⟨rfl, hB3⟩
        have HB3 := Lib.hid hB3
        have c5 := weight_any (some ⟨gL, 0, none⟩) cL ms w3 (HNL.out.later hB3) (by have := HmL.out; omega)
        rw [Hml.out, Hwt.out] at c5
        have C5 := Lib.hid c5
        clear hB3 c5
        go_wp2_with fail
        refine C5.out.mono ?_
        rintro e w4 ⟨rfl, hB4⟩
        have HB4 := Lib.hid (HB3.out.trans (hB4.mono HB3.out.size))
        have c6 := kept_any w1.heap.size gL cL A c ms w4 (own_later HL.out fun b hb => HB4.out.block b (own_lt HL.out hb).2) (((Hms.out.later HB1.out).later HB2.out).later HB4.out) HmL.out
        rw [Hml.out] at c6
        have C6 := Lib.hid c6
        clear hB4 c6
        go_wp2_with fail
        refine C6.out.mono ?_
        rintro e w5 ⟨rfl, hG5⟩
        have hqL := own_lt HL.out (b := gL) rfl
        have hB5 : Below w1.heap.size w4 w5 := (Below.refl w1.heap.size w4).grown hG5 (Nat.le_trans HB2.out.size HB4.out.size) fun k e => by cases e; exact hqL.1
        have hB15 : Below w1.heap.size w1 w5 := (HB2.out.trans (HB4.out.mono HB2.out.size)).trans hB5
        have HB5 := Lib.hid (HB1.out.trans (hB15.mono HB1.out.size))
        clear hB5 hB15 hqL hG5
        go_wp2_with fail
        refine (C3.out w5 HB5.out).mono ?_
        rw [Hwt.out]
        rintro e w6 ⟨rfl, hB6⟩
        have HB6 := Lib.hid (HB5.out.trans (hB6.mono HB5.out.size))
        clear hB6
        go_wp2_with fail
        go_round
        case rel => exact ⟨m, by go_num, by omega, by have := Hk2.out; omega, HB6.out⟩
        case measure => simp [intOf]
      · clear hk1
        go_wp2_with fail
        refine (awake_any _).mono ?_
        rintro e w5 ⟨rfl, hb5⟩
        have HB5 := Lib.hid (HB.out.trans (hb5.mono HB.out.size))
        clear hb5
        go_wp2_with fail
        go_ret
        exact ⟨rfl, HB5.out⟩
end Go.Proofs.Ytedhlofmkehfkaa
