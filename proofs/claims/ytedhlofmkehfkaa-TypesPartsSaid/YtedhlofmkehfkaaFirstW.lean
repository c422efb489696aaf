/- TypesFirst: the walk. -/
import Derived.Test.YtedhlofmkehfkaaLawFirst
import Derived.Test.YtedhlofmkehfkaaAwake
import Derived.Test.YtedhlofmkehfkaaApp
namespace Go.Proofs.Ytedhlofmkehfkaa
open Go.RowKit Go.Shelf
set_option linter.unusedVariables false
set_option linter.unusedSimpArgs false

theorem NodesOk.append {a b : List Node} (ha : NodesOk a) (hb : NodesOk b) (hl : a.length + b.length ≤ 1954687338260) : NodesOk (a ++ b) :=
  ⟨fun n hn => (List.mem_append.1 hn).elim (ha.bytes n) (hb.bytes n), fun n hn => (List.mem_append.1 hn).elim (ha.u32 n) (hb.u32 n), by rw [List.length_append]; exact hl⟩
theorem NodesOk.take {a : List Node} (ha : NodesOk a) (k : Nat) : NodesOk (a.take k) :=
  ⟨fun n hn => ha.bytes n (List.mem_of_mem_take hn), fun n hn => ha.u32 n (List.mem_of_mem_take hn), by rw [List.length_take]; have := ha.len; omega⟩
set_option maxRecDepth 100000 in
set_option maxHeartbeats 3200000 in
theorem first_any (A : Option Addr) (c : Nat) (ns : List Node) (B : Option Addr) (d : Nat) (ms : List Node) (w : World) (hA : Ns w A ns) (hok : NodesOk ns) (hnA : A = none → c = 0) (hcA : ns.length ≤ c)
    (hB : Ns w B ms) (hmok : NodesOk ms) (hnB : B = none → d = 0) (hsum : ns.length + ms.length ≤ 1954687338260) :
    Calls Try.prog 10 #[.slice A ns.length c, .slice B ms.length d] w fun e w' => e = .returned (.bool true) ∧ Below w.heap.size w w' := by
  have HA := Lib.hid hA
  have HB := Lib.hid hB
  have Hok := Lib.hid hok
  have Hmok := Lib.hid hmok
  have Hn := Lib.hid hnA
  have HnB := Lib.hid hnB
  have Hsum := Lib.hid hsum
  have Hlen := Lib.hid hok.len
  clear hA hB hok hmok hnA hnB hsum
  go_enter Try.func10, Try.ntmps10
  go_wp2_with fail
  refine (copy_any A c ns _ HA.out Hlen.out Hn.out).mono ?_
  rintro e w1 ⟨g, c1, rfl, hown, hB1⟩
  have HO := Lib.hid hown.is
  have HB1 := Lib.hid hB1
  clear hown hB1
  go_wp2_with fail
  have q1 := check_any (some ⟨g, 0, none⟩) c1 ns w1 HO.out Hok.out
  have hpl := check_place ns
  obtain ⟨r, hr⟩ : ∃ r, checkT ns = r := ⟨_, rfl⟩
  rw [hr] at q1 hpl
  obtain ⟨at_, er⟩ := r
  obtain ⟨j, rfl⟩ : ∃ j : Nat, at_ = (j : Int) := ⟨at_.toNat, by simp only at hpl; omega⟩
  have Hr := Lib.hid hr
  refine q1.mono ?_
  rintro e w2 ⟨rfl, hB2⟩
  have HB2 := Lib.hid (HB1.out.trans (hB2.mono HB1.out.size))
  clear q1 hpl hr hB2 HO HB1
  by_cases hout : er = 0 ∨ er = 126 ∨ ns.length ≤ j
  · have main : Calls Try.prog 15 #[] w2 fun e w' => e = .returned (.bool true) ∧ Below w.heap.size w w' := (awake_any w2).mono fun e w' h => ⟨h.1, HB2.out.trans (h.2.mono HB2.out.size)⟩
    have HM := Lib.hid main
    clear main
    by_cases h0 : er = 0
    · subst h0
      go_wp2_with fail
      refine HM.out.mono ?_
      rintro e w3 ⟨rfl, hb⟩
      go_wp2_with fail
      go_ret
      exact ⟨rfl, hb⟩
    by_cases h1 : er = 126
    · subst h1
      go_wp2_with fail
      refine HM.out.mono ?_
      rintro e w3 ⟨rfl, hb⟩
      go_wp2_with fail
      go_ret
      exact ⟨rfl, hb⟩
    have h0' : (er == 0) = false := by simpa using h0
    have h1' : (er == 126) = false := by simpa using h1
    have h2 : (ns.length : Int) ≤ (j : Int) := by omega
    clear h0 h1 hout
    go_wp2_with fail
    refine HM.out.mono ?_
    rintro e w3 ⟨rfl, hb⟩
    go_wp2_with fail
    go_ret
    exact ⟨rfl, hb⟩
  · have h0 : ¬ er = 0 := fun h => hout (.inl h)
    have h1 : ¬ er = 126 := fun h => hout (.inr (.inl h))
    have hj : j < ns.length := by omega
    have H0 := Lib.hid h0
    have H1 := Lib.hid h1
    have Hj := Lib.hid hj
    have h0' : (er == 0) = false := by simpa using h0
    have h1' : (er == 126) = false := by simpa using h1
    have h2 : (j : Int) < (ns.length : Int) := by omega
    have hj0 : (0 : Int) ≤ (j : Int) := by omega
    clear h0 h1 hout hj
    obtain ⟨b, o, rfl, hn⟩ := (HA.out.later HB2.out) (by have := Hj.out; omega)
    have h1 := hn j Hj.out
    obtain ⟨n, hnn⟩ : ∃ n, ns.getD j Node.zero = n := ⟨_, rfl⟩
    rw [hnn] at h1
    have k0 : w2.cell? ⟨b, o + j * 24, none⟩ = some (.int .i64 n.kind) := by
      have := nodeIn_of h1 0 _ rfl
      rwa [add_plain, Nat.add_zero] at this
    have Hnn := Lib.hid hnn
    clear hn h1 hnn
    go_upto_region 4 with fail
    go_cut [55] (fun s55 W => s55 = .bool (decide (er = 121 ∧ n.kind ≠ 7 ∧ n.kind ≠ 8 ∧ n.kind ≠ 9)) ∧ Below w2.heap.size w2 W)
    case first =>
      by_cases h121 : er = 121
      · subst h121
        by_cases k7 : n.kind = 7
        · rw [k7] at k0
          go_wp2_with fail
          go_meet
          exact ⟨by simp [k7], Below.refl _ _⟩
        by_cases k8 : n.kind = 8
        · rw [k8] at k0
          go_wp2_with fail
          go_meet
          exact ⟨by simp [k8], Below.refl _ _⟩
        have k7' : (n.kind != 7) = true := by simpa using k7
        have k8' : (n.kind != 8) = true := by simpa using k8
        go_wp2_with fail
        go_meet
        refine ⟨?_, Below.refl _ _⟩
        by_cases k9 : n.kind = 9 <;> simp [k7, k8, k9]
      · have h121' : (er == 121) = false := by simpa using h121
        go_wp2_with fail
        go_meet
        exact ⟨by simp [h121], Below.refl _ _⟩
    case rest =>
      obtain ⟨rfl, hB3⟩ := hcut
      have HB3 := Lib.hid (HB2.out.trans (hB3.mono HB2.out.size))
      clear hB3
      by_cases hq : er = 121 ∧ n.kind ≠ 7 ∧ n.kind ≠ 8 ∧ n.kind ≠ 9
      · have hd : decide (er = 121 ∧ n.kind ≠ 7 ∧ n.kind ≠ 8 ∧ n.kind ≠ 9) = true := decide_eq_true hq
        rw [hd]
        clear hd hq
        go_wp2_with fail
        refine (awake_any _).mono ?_
        rintro e w3 ⟨rfl, hB4⟩
        have HB4 := Lib.hid (HB3.out.trans (hB4.mono HB3.out.size))
        clear hB4
        go_wp2_with fail
        go_ret
        exact ⟨rfl, HB4.out⟩
      · have hd : decide (er = 121 ∧ n.kind ≠ 7 ∧ n.kind ≠ 8 ∧ n.kind ≠ 9) = false := decide_eq_false hq
        rw [hd]
        have law := check_first Hr.out H0.out H1.out Hj.out (by rw [Hnn.out]; exact hq)
        have HL := Lib.hid law
        clear hd hq law
        go_wp2_with fail
        refine (copy_any (some ⟨b, o, none⟩) c ns _ (HA.out.later HB3.out) Hlen.out Hn.out).mono ?_
        rintro e w4 ⟨g4, c4, rfl, hown4, hB4⟩
        have HO4 := Lib.hid hown4
        have HB4 := Lib.hid hB4
        clear hown4 hB4
        go_wp2_with (at_builtin; refine wpList_app rfl _ _ rfl wc.heap.size ns ms g4 ns.length c4 rfl rfl HO4.out B ms.length d rfl rfl ((HB.out.later HB3.out).later HB4.out) HnB.out Hsum.out HB4.out.size ?_; intro g5 cap5 w5 hown5 hB5 hgr5 hlt5)
        have c2 := check_any (some ⟨g5, 0, none⟩) cap5 (ns ++ ms) w5 hown5.is (Hok.out.append Hmok.out Hsum.out)
        have e2 := HL.out (ns.drop (j + 1) ++ ms)
        rw [← List.append_assoc, List.take_append_drop] at e2
        rw [e2, List.length_append] at c2
        refine c2.mono ?_
        rintro e w6 ⟨rfl, hB6⟩
        have hB7 : Below wc.heap.size wc w6 := (HB4.out.trans hB5).trans (hB6.mono (HB4.out.trans hB5).size)
        have HB7 := Lib.hid hB7
        clear hown5 hB5 hgr5 hlt5 c2 e2 hB6 hB7
        have hl : (ns.take (j + 1)).length = j + 1 := by rw [List.length_take]; have := Hj.out; omega
        have Hl := Lib.hid hl
        have i1 : (0 : Int) ≤ (j : Int) + 1 := by omega
        have i2 : (j : Int) + 1 ≤ (c : Int) := by omega
        have i3 : (j : Int) ≤ 1954687338260 := by have := Hlen.out; have := Hj.out; omega
        have HN7 := Lib.hid (((HA.out.later HB3.out).later HB7.out).prefix (j + 1))
        clear hl
        go_upto_region 7 with fail
        go_wp2_with fail
        have q := copy_any (some ⟨b, o, none⟩) c (ns.take (j + 1)) w6 HN7.out (by rw [Hl.out]; have := Hlen.out; have := Hj.out; omega) Hn.out
        rw [Hl.out] at q
        refine q.mono ?_
        rintro e w8 ⟨g8, c8, rfl, hown8, hB8⟩
        have HO8 := Lib.hid hown8.is
        have HB8 := Lib.hid (HB7.out.trans (hB8.mono HB7.out.size))
        clear q hown8 hB8
        go_wp2_with fail
        have c3 := check_any (some ⟨g8, 0, none⟩) c8 (ns.take (j + 1)) w8 HO8.out (Hok.out.take _)
        have e3 := HL.out []
        rw [List.append_nil] at e3
        rw [Hl.out, e3] at c3
        refine c3.mono ?_
        rintro e w9 ⟨rfl, hB9⟩
        have HB9 := Lib.hid (HB3.out.trans ((HB8.out.trans (hB9.mono HB8.out.size)).mono HB3.out.size))
        clear c3 e3 hB9
        go_wp2_with fail
        refine (awake_any _).mono ?_
        rintro e w10 ⟨rfl, hB10⟩
        have HB10 := Lib.hid (HB9.out.trans (hB10.mono HB9.out.size))
        clear hB10
        go_wp2_with fail
        go_ret
        exact ⟨rfl, HB10.out⟩
theorem first_row (A : Option Addr) (c : Nat) (ns : List Node) (B : Option Addr) (d : Nat) (ms : List Node) (w : World) (hA : Ns w A ns) (hok : NodesOk ns) (hnA : A = none → c = 0) (hcA : ns.length ≤ c) (hrA : c ≤ 1048576)
    (hB : Ns w B ms) (hmok : NodesOk ms) (hnB : B = none → d = 0) (hcB : ms.length ≤ d) (hrB : d ≤ 1048576) :
    Calls Try.prog 10 #[.slice A ns.length c, .slice B ms.length d] w fun e w' => e = .returned (.bool true) ∧ Below w.heap.size w w' :=
  first_any A c ns B d ms w hA hok hnA hcA hB hmok hnB (by omega)
end Go.Proofs.Ytedhlofmkehfkaa
