/- The document's Check and Constant. -/
import Derived.Test.YtedhlofmkehfkaaRefF
namespace Go.Proofs.Ytedhlofmkehfkaa
open Go.RowKit Go.Shelf
set_option linter.unusedVariables false
set_option linter.unusedSimpArgs false

/-- What is read of a stack of one. -/
theorem one_cells {w : World} {base : Nat} {v : Value} {sk : List Part} (h : OwnR w base v sk) (h1 : sk.length = 1) :
    ∃ g c, v = .slice (some ⟨g, 0, none⟩) 1 c ∧ w.cell? ⟨g, 0, none⟩ = some (.bool (sk.getD 0 Part.zero).truth) ∧ w.cell? ⟨g, 1, none⟩ = some (.bool (sk.getD 0 Part.zero).constant) ∧ w.cell? ⟨g, 2, none⟩ = some (.int .u32 (sk.getD 0 Part.zero).value) := by
  rcases ownR_form h with ⟨rfl, rfl⟩ | ⟨g, c, rfl, h2, h3, h4, h5⟩
  · cases h1
  · have hc : ∀ j u, (partL (sk.getD 0 Part.zero))[j]? = some u → w.cell? ⟨g, j, none⟩ = some u := fun j u hu => by
      have := World.ownsRow.cells h (g := g) rfl _ _ (parts_get sk 0 (by omega) j u hu)
      rwa [add_plain, Nat.zero_mul, Nat.zero_add, Nat.zero_add] at this
    exact ⟨g, c, by rw [h1], hc 0 _ rfl, hc 1 _ rfl, hc 2 _ rfl⟩
theorem ownR_len {w : World} {base : Nat} {v : Value} {sk : List Part} (h : OwnR w base v sk) : ∃ A c, v = .slice A sk.length c := by
  rcases ownR_form h with ⟨rfl, rfl⟩ | ⟨g, c, rfl, h2, h3, h4, h5⟩
  · exact ⟨_, _, rfl⟩
  · exact ⟨_, _, rfl⟩
theorem refT_len : ∀ (ns : List Node) (i : Int) (sk : List Part), (refT ns i sk).2.2.length ≤ sk.length + ns.length
  | [], i, sk => by simp [refT]
  | n :: ns, i, sk => by
    unfold refT
    cases ha : arityK n.kind with
    | none => simp
    | some a =>
      simp only
      split
      · simp
      · split
        · simp
        · refine Nat.le_trans (refT_len ns _ _) ?_
          rw [List.length_append, List.length_take, List.length_cons]
          simp
          omega
set_option maxRecDepth 100000 in
set_option maxHeartbeats 3200000 in
theorem refcheck_any (A : Option Addr) (c : Nat) (ns : List Node) (w : World) (hA : Ns w A ns) (hok : NodesOk ns) :
    Calls Try.prog 11 #[.slice A ns.length c] w fun e w' => e = .returned (.tuple #[.int .i64 (refCheckT ns).1, .int .i64 (refCheckT ns).2]) ∧ Below w.heap.size w w' := by
  have HA := Lib.hid hA
  have HO := Lib.hid hok
  have hnl := hok.len
  obtain ⟨r, hr⟩ : ∃ r, refCheckT ns = r := ⟨_, rfl⟩
  rw [hr]
  have Hr := Lib.hid hr
  clear hA hok hr
  go_enter Try.func11, Try.ntmps11
  go_wp2_with fail
  refine (refwalk_any A c ns _ HA.out HO.out).mono ?_
  rintro e w1 ⟨v, rfl, hB, hv⟩
  have hr := Hr.out
  unfold refCheckT at hr
  have hlen := refT_len ns 0 []
  obtain ⟨R, hR⟩ : ∃ r, refT ns 0 [] = r := ⟨_, rfl⟩
  rw [hR] at hr hv hlen ⊢
  obtain ⟨at_, code, sk⟩ := R
  simp only at hr hv hlen ⊢
  have HB := Lib.hid hB
  clear hB hR
  by_cases hc0 : code = 0
  · subst hc0
    rw [if_neg (fun h => h rfl)] at hr
    have hown := hv rfl
    obtain ⟨sA, sc, rfl⟩ := ownR_len hown
    have Hown := Lib.hid hown
    have hlen : sk.length ≤ ns.length := by simpa using hlen
    clear hv hown
    by_cases h1 : sk.length = 1
    · rw [if_neg (fun h => h h1)] at hr
      obtain ⟨g, c2, e, t0, t1, t2⟩ := one_cells Hown.out h1
      rw [h1] at e ⊢
      cases e
      have h1p : 0 < ns.length := by omega
      clear h1 t1 t2 hlen
      cases ht : (sk.getD 0 Part.zero).truth with
      | false =>
        rw [ht] at hr t0
        rw [if_pos rfl] at hr
        have Hr2 := Lib.hid hr
        clear hr ht
        go_wp2_with fail
        go_ret2
        rw [← Hr2.out]
        exact ⟨rfl, HB.out⟩
      | true =>
        rw [ht] at hr t0
        rw [if_neg (by simp)] at hr
        have Hr2 := Lib.hid hr
        clear hr ht
        go_wp2_with fail
        go_loopw [8, 7] (fun x y wr => ∃ (i : Nat) (s : Int), i ≤ ns.length ∧ x = .int .i64 i ∧ y = .int .i64 s ∧ 0 ≤ s ∧ s ≤ 3000 ∧ weighT (ns.drop i) i s = r ∧ Below w.heap.size w wr) (fun x _ _ => ns.length - (intOf x).toNat)
        case atStart => exact ⟨0, 0, by omega, rfl, rfl, by omega, by omega, Hr2.out, HB.out⟩
        case round =>
          obtain ⟨i, s, hi, rfl, rfl, hs0, hs1, hrun, hB⟩ := hrel
          have HB2 := Lib.hid hB
          have Hrun := Lib.hid hrun
          clear hB hrun
          by_cases hlt : i < ns.length
          · obtain ⟨b, o, rfl, hn⟩ := (HA.out.later HB2.out) (by omega)
            have hh := hn i hlt
            have hrun := Hrun.out
            have hdrop : ns.drop i = ns.getD i Node.zero :: ns.drop (i + 1) := by
              rw [List.drop_eq_getElem_cons hlt, List.getD_eq_getElem?_getD, List.getElem?_eq_getElem hlt]
              rfl
            rw [hdrop] at hrun
            unfold weighT at hrun
            obtain ⟨n, hnn⟩ : ∃ n, ns.getD i Node.zero = n := ⟨_, rfl⟩
            rw [hnn] at hh hrun
            have hwr := weightI_range n.kind n
            obtain ⟨wt, hwt⟩ : ∃ x, weightI n.kind n = x := ⟨_, rfl⟩
            rw [hwt] at hwr hrun
            have Hwt := Lib.hid hwt
            have Hrun2 := Lib.hid hrun
            obtain ⟨hw0, hw1⟩ := hwr
            have i2 : (0 : Int) ≤ (i : Int) := by omega
            have i3 : (i : Int) < (ns.length : Int) := by omega
            clear hn hnn hdrop hrun hwt
            go_wp2_with fail
            refine (weigh_any n _).mono ?_
            rw [Hwt.out]
            rintro e w2 ⟨rfl, rfl⟩
            by_cases hgt : s + wt > 3000
            · have hrun := Hrun2.out
              rw [if_pos hgt] at hrun
              have Hrun3 := Lib.hid hrun
              have hgt2 : ¬ s + wt ≤ 3000 := by omega
              have hgt3 : 3000 < s + wt := by omega
              clear hrun
              go_wp2_with fail
              go_ret2
              rw [← Hrun3.out]
              exact ⟨rfl, HB2.out.alloc HB2.out.size _⟩
            · have hrun := Hrun2.out
              rw [if_neg hgt] at hrun
              have Hrun3 := Lib.hid hrun
              have hgt2 : s + wt ≤ 3000 := by omega
              have hgt3 : ¬ 3000 < s + wt := by omega
              clear hrun
              go_wp2_with fail
              go_round
              case rel => exact ⟨i + 1, s + wt, by omega, by go_num, rfl, by omega, by omega, Hrun3.out, HB2.out.alloc HB2.out.size _⟩
              case measure => simp [intOf]; omega
          · have hrun := Hrun.out
            rw [List.drop_of_length_le (by omega)] at hrun
            have hrun : ((0 : Int), (0 : Int)) = r := hrun
            have Hrun3 := Lib.hid hrun
            have hi1 : ¬ (i : Int) < (ns.length : Int) := by omega
            clear hrun
            go_wp2_with fail
            go_ret2
            rw [← Hrun3.out]
            exact ⟨rfl, HB2.out⟩
    · rw [if_pos h1] at hr
      have Hr2 := Lib.hid hr
      obtain ⟨m, hm⟩ : ∃ m, sk.length = m := ⟨_, rfl⟩
      rw [hm] at h1 hlen ⊢
      have hmb : ((m : Int) == 1) = false := by simp; omega
      have hm1 : ¬ (m : Int) = 1 := by omega
      clear hr hm
      go_wp2_with fail
      go_ret2
      rw [← Hr2.out]
      exact ⟨rfl, HB.out⟩
  · rw [if_pos hc0] at hr
    have Hr2 := Lib.hid hr
    have hcb : (code == 0) = false := by simp [hc0]
    clear hr hv
    go_wp2_with fail
    go_ret2
    rw [← Hr2.out]
    exact ⟨rfl, HB.out⟩
set_option maxRecDepth 100000 in
set_option maxHeartbeats 3200000 in
theorem refconst_any (A : Option Addr) (c : Nat) (ns : List Node) (w : World) (hA : Ns w A ns) (hok : NodesOk ns) :
    Calls Try.prog 16 #[.slice A ns.length c] w fun e w' => e = .returned (.tuple #[.int .u32 (refConstT ns).1, .bool (refConstT ns).2]) ∧ Below w.heap.size w w' := by
  have HA := Lib.hid hA
  have HO := Lib.hid hok
  have hnl := hok.len
  obtain ⟨r, hr⟩ : ∃ r, refConstT ns = r := ⟨_, rfl⟩
  rw [hr]
  have Hr := Lib.hid hr
  clear hA hok hr
  go_enter Try.func16, Try.ntmps16
  go_wp2_with fail
  refine (refwalk_any A c ns _ HA.out HO.out).mono ?_
  rintro e w1 ⟨v, rfl, hB, hv⟩
  have hr := Hr.out
  unfold refConstT at hr
  have hlen := refT_len ns 0 []
  obtain ⟨R, hR⟩ : ∃ r, refT ns 0 [] = r := ⟨_, rfl⟩
  rw [hR] at hr hv hlen ⊢
  obtain ⟨at_, code, sk⟩ := R
  simp only at hr hv hlen ⊢
  have HB := Lib.hid hB
  clear hB hR
  by_cases hc0 : code = 0
  · subst hc0
    have hown := hv rfl
    obtain ⟨sA, sc, rfl⟩ := ownR_len hown
    have Hown := Lib.hid hown
    have hlen : sk.length ≤ ns.length := by simpa using hlen
    clear hv hown
    by_cases h1 : sk.length = 1
    · obtain ⟨g, c2, e, t0, t1, t2⟩ := one_cells Hown.out h1
      rw [h1] at e ⊢
      cases e
      have Hh1 := Lib.hid h1
      clear h1 hlen
      cases ht : (sk.getD 0 Part.zero).truth with
      | true =>
        rw [ht] at hr t0
        rw [if_pos (.inr (.inr (.inl rfl)))] at hr
        have Hr2 := Lib.hid hr
        clear hr ht
        go_wp2_with fail
        go_ret2
        rw [← Hr2.out]
        exact ⟨rfl, HB.out⟩
      | false =>
        cases hk : (sk.getD 0 Part.zero).constant with
        | false =>
          rw [ht, hk] at hr
          rw [ht] at t0
          rw [hk] at t1
          rw [if_pos (.inr (.inr (.inr rfl)))] at hr
          have Hr2 := Lib.hid hr
          clear hr ht hk
          go_wp2_with fail
          go_ret2
          rw [← Hr2.out]
          exact ⟨rfl, HB.out⟩
        | true =>
          rw [ht, hk] at hr
          rw [ht] at t0
          rw [hk] at t1
          rw [if_neg (fun h => h.elim (fun h => h rfl) fun h => h.elim (fun h => h Hh1.out) fun h => h.elim (fun h => nomatch h) fun h => nomatch h)] at hr
          have Hr2 := Lib.hid hr
          clear hr ht hk
          go_wp2_with fail
          go_ret2
          rw [← Hr2.out]
          exact ⟨rfl, HB.out⟩
    · rw [if_pos (.inr (.inl h1))] at hr
      have Hr2 := Lib.hid hr
      obtain ⟨m, hm⟩ : ∃ m, sk.length = m := ⟨_, rfl⟩
      rw [hm] at h1 hlen ⊢
      have hmb : ((m : Int) == 1) = false := by simp; omega
      have hm1 : ¬ (m : Int) = 1 := by omega
      clear hr hm
      go_wp2_with fail
      go_ret2
      rw [← Hr2.out]
      exact ⟨rfl, HB.out⟩
  · rw [if_pos (.inl hc0)] at hr
    have Hr2 := Lib.hid hr
    have hcb : (code == 0) = false := by simp [hc0]
    clear hr hv
    go_wp2_with fail
    go_ret2
    rw [← Hr2.out]
    exact ⟨rfl, HB.out⟩
end Go.Proofs.Ytedhlofmkehfkaa
