/- LexFirst: the walk. -/
import Derived.Test.YtoknkgeojhekoaaDoorStr
import Derived.IntWalk
namespace Go.Proofs.YtoknkgeojhekoaaDoor
open Go.RowKit Go.Shelf
set_option linter.unusedVariables false
set_option linter.unusedSimpArgs false

theorem lexS_of {s : ByteArray} (h : s.size ≤ 65536) : lexS s = lexL s.data.toList 0 := by
  unfold lexS
  rw [if_neg (by omega)]
theorem append_list (a b : ByteArray) : (a ++ b).data.toList = a.data.toList ++ b.data.toList := by
  rw [ByteArray.data_append, Array.toList_append]
theorem first_err {s u x1 x2 : ByteArray} {p : Nat × Int} (h1 : s ++ (⟨#[32]⟩ : ByteArray) = x1) (h2 : x1 ++ u = x2) (hs : s.size + u.size ≤ 65535) (h : lexS s = .error p) : lexS x2 = .error p := by
  have hz : x2.size = s.size + 1 + u.size := by rw [← h2, ← h1, ByteArray.size_append, ByteArray.size_append]; rfl
  rw [lexS_of (by omega)] at h ⊢
  have e : x2.data.toList = s.data.toList ++ 32 :: u.data.toList := by
    rw [← h2, ← h1, append_list, append_list]
    simp
  rw [e]
  exact (lexL_more (c := 32) (by decide) u.data.toList s.data.toList 0).1 p h
theorem first_ok {s u x1 x2 : ByteArray} {ts : List Tk} (h1 : s ++ (⟨#[32]⟩ : ByteArray) = x1) (h2 : x1 ++ u = x2) (hs : s.size + u.size ≤ 65535) (h : lexS s = .ok ts) :
    ∃ us, ts = us ++ [endT s.size] ∧ us.length ≤ 65536 ∧ ((∃ b e, e ≠ 0 ∧ lexS x2 = .error (s.size + 1 + b, e) ∧ lexS u = .error (b, e)) ∨ (∃ vs, lexS x2 = .ok (us ++ vs) ∧ 0 < vs.length ∧ vs.length ≤ 65537)) := by
  have hz : x2.size = s.size + 1 + u.size := by rw [← h2, ← h1, ByteArray.size_append, ByteArray.size_append]; rfl
  rw [lexS_of (by omega)] at h
  rw [lexS_of (by omega), lexS_of (by omega)]
  have e : x2.data.toList = s.data.toList ++ 32 :: u.data.toList := by
    rw [← h2, ← h1, append_list, append_list]
    simp
  rw [e]
  obtain ⟨us, hts, _, _, hul, _⟩ := lexL_ok h
  rw [size_list] at hul
  rw [hts] at h
  have hm := (lexL_more (c := 32) (by decide) u.data.toList s.data.toList 0).2 us _ h
  refine ⟨us, by rw [hts, size_list, Nat.zero_add], by omega, ?_⟩
  rw [hm, size_list]
  cases hr : lexL u.data.toList (0 + s.size + 1) with
  | error q =>
    obtain ⟨a, c⟩ := q
    obtain ⟨b, hb, hall⟩ := (lexL_shift u.data.toList (0 + s.size + 1)).1 a c hr
    refine .inl ⟨b, c, ?_, ?_, ?_⟩
    · exact lexL_err hr
    · rw [hb, Nat.zero_add]; rfl
    · rw [hall 0, Nat.zero_add]
  | ok vs =>
    obtain ⟨ws, hw, _, _, hl, _⟩ := lexL_ok hr
    rw [size_list] at hl
    exact .inr ⟨vs, rfl, by rw [hw]; simp, by rw [hw]; simp; omega⟩
set_option maxRecDepth 100000 in
set_option maxHeartbeats 3200000 in
theorem first_law (s u : ByteArray) (m : Int) (w : World) (hs : s.size ≤ 140737488351232) (hu : u.size ≤ 140737488351232) (hm : w.cell? ⟨0, 0, none⟩ = some (.int .i64 m)) :
    Calls Tryd.prog 9 #[.string s, .string u] w fun e w' => e = .returned (.bool true) ∧ Below w.heap.size w w' := by
  have c0 := lex_any s m w (by omega) hm
  have C0 := Lib.hid c0
  have Hm := Lib.hid hm
  clear c0 hm
  by_cases hbig : 65536 ≤ s.size + u.size
  · have hsd : decide ((65536 : Int) ≤ (s.size : Int) + (u.size : Int)) = true := decide_eq_true (by omega)
    clear hbig
    have hB : ∀ e w', LexPost w (lexS s) e w' → ∃ A n c a k, e = .returned (.tuple #[.slice A n c, .int .i64 a, .int .i64 k]) ∧ Below w.heap.size w w' := by
      intro e w' h
      cases hR : lexS s with
      | error p =>
        obtain ⟨h1, h2⟩ := h.bad hR
        exact ⟨_, _, _, _, _, h1, h2⟩
      | ok ts =>
        obtain ⟨g, d, h1, _, h2⟩ := h.good hR
        exact ⟨_, _, _, _, _, h1, h2⟩
    have HB := Lib.hid hB
    clear hB
    go_enter Tryd.func9, Tryd.ntmps9
    go_wp2_with fail
    refine C0.out.mono ?_
    intro e w1 h
    obtain ⟨A, n, c, a, k, rfl, hB1⟩ := HB.out e w1 h
    have c6 := awake_any m w1 (max_later Hm.out hB1)
    have C6 := Lib.hid c6
    have HB1 := Lib.hid hB1
    clear c6 hB1 h
    go_wp2_with fail
    refine C6.out.mono ?_
    rintro e w7 ⟨rfl, hB7⟩
    have HF := Lib.hid (HB1.out.trans (hB7.mono HB1.out.size))
    clear hB7
    go_wp2_with fail
    go_ret
    exact ⟨rfl, HF.out⟩
  · have hsd : decide ((65536 : Int) ≤ (s.size : Int) + (u.size : Int)) = false := decide_eq_false (by omega)
    have hsu : s.size + u.size ≤ 65535 := by omega
    obtain ⟨x1, hx1⟩ : ∃ x, s ++ (⟨#[32]⟩ : ByteArray) = x := ⟨_, rfl⟩
    obtain ⟨x2, hx2⟩ : ∃ x, x1 ++ u = x := ⟨_, rfl⟩
    have hz1 : x1.size = s.size + 1 := by rw [← hx1, ByteArray.size_append]; rfl
    have hz2 : x2.size = s.size + 1 + u.size := by rw [← hx2, ByteArray.size_append, hz1]
    have hadd1 := fun W => add_strs (by rw [one_size]; omega) hx1 W
    have hadd2 := fun W => add_strs (by omega) hx2 W
    have hx2s : x2.size ≤ 65536 := by omega
    have Hx2 := Lib.hid hx2s
    have Hus := Lib.hid (show u.size ≤ 65536 by omega)
    cases hR : lexS s with
    | error p =>
      have hne : (p.2 == 0) = false := by
        rw [beq_eq_false_iff_ne]
        exact lexS_err hR
      have hR2 := first_err hx1 hx2 hsu hR
      have HR := Lib.hid hR
      have HR2 := Lib.hid hR2
      clear hR hR2 hx1 hx2 hz1 hz2 hsu hbig hx2s
      go_enter Tryd.func9, Tryd.ntmps9
      go_wp2_with fail
      refine C0.out.mono ?_
      intro e w1 h
      obtain ⟨rfl, hB1⟩ := h.bad HR.out
      have c1 := lex_any x2 m w1 (by have := Hx2.out; omega) (max_later Hm.out hB1)
      have C1 := Lib.hid c1
      have HB1 := Lib.hid hB1
      clear c1 hB1 h
      go_wp2_with fail
      refine C1.out.mono ?_
      intro e w2 h
      obtain ⟨rfl, hB2⟩ := h.bad HR2.out
      have hB2 := HB1.out.trans (hB2.mono HB1.out.size)
      have c6 := awake_any m w2 (max_later Hm.out hB2)
      have C6 := Lib.hid c6
      have HB2 := Lib.hid hB2
      clear c6 hB2 h
      go_wp2_with fail
      refine C6.out.mono ?_
      rintro e w7 ⟨rfl, hB7⟩
      have HF := Lib.hid (HB2.out.trans (hB7.mono HB2.out.size))
      clear hB7
      go_wp2_with fail
      go_ret
      exact ⟨rfl, HF.out⟩
    | ok ts =>
      obtain ⟨us, hts, hul, hcase⟩ := first_ok hx1 hx2 hsu hR
      have hlu : ts.length = us.length + 1 := by rw [hts]; simp
      have HR := Lib.hid hR
      have Hts := Lib.hid hts
      have Hlu := Lib.hid hlu
      clear hR hts hlu hx1 hx2 hz1 hz2 hbig hx2s
      rcases hcase with ⟨b, e, hne, hR2, hR3⟩ | ⟨vs, hR2, hv0, hv1⟩
      · have hne2 : (e == 0) = false := by
          rw [beq_eq_false_iff_ne]
          exact hne
        have hq : (((s.size + 1 + b : Nat) : Int) == (s.size : Int) + 1 + (b : Int)) = true := by
          rw [beq_iff_eq]
          omega
        have hb : b ≤ 65536 := by
          have := lexS_err_le hR3 (by omega)
          omega
        have hbz : ((s.size + 1 + b : Nat) : Int) = (s.size : Int) + 1 + (b : Int) := by omega
        have HR2 := Lib.hid hR2
        have HR3 := Lib.hid hR3
        have Hbz := Lib.hid hbz
        clear hR2 hR3 hne hbz hsu
        go_enter Tryd.func9, Tryd.ntmps9
        go_wp2_with fail
        refine C0.out.mono ?_
        intro e0 w1 h
        obtain ⟨g, d, rfl, hO, hB1⟩ := h.good HR.out
        have c1 := lex_any x2 m w1 (by have := Hx2.out; omega) (max_later Hm.out hB1)
        have C1 := Lib.hid c1
        have HB1 := Lib.hid hB1
        clear c1 hB1 h hO
        go_wp2_with fail
        refine C1.out.mono ?_
        intro e0 w2 h
        obtain ⟨rfl, hB2⟩ := h.bad HR2.out
        have hB2 := HB1.out.trans (hB2.mono HB1.out.size)
        have c2 := lex_any u m w2 (by have := Hus.out; omega) (max_later Hm.out hB2)
        have C2 := Lib.hid c2
        have HB2 := Lib.hid hB2
        clear c2 hB2 h
        go_wp2_with fail
        refine C2.out.mono ?_
        intro e0 w3 h
        obtain ⟨rfl, hB3⟩ := h.bad HR3.out
        have hB3 := HB2.out.trans (hB3.mono HB2.out.size)
        have c6 := awake_any m w3 (max_later Hm.out hB3)
        have C6 := Lib.hid c6
        have HB3 := Lib.hid hB3
        clear c6 hB3 h
        go_wp2_with fail
        refine C6.out.mono ?_
        rintro e0 w7 ⟨rfl, hB7⟩
        have HF := Lib.hid (HB3.out.trans (hB7.mono HB3.out.size))
        clear hB7
        go_wp2_with fail
        go_ret
        exact ⟨rfl, HF.out⟩
      · have HR2 := Lib.hid hR2
        have hlv : (us ++ vs).length = us.length + vs.length := by simp
        have Hlv := Lib.hid hlv
        have k0 : (0 : Int) < (us.length : Int) + 1 := by omega
        have k1 : (us.length : Int) + 1 ≤ (us.length : Int) + (vs.length : Int) := by omega
        clear hR2 hlv hsu
        go_enter Tryd.func9, Tryd.ntmps9
        go_wp2_with fail
        refine C0.out.mono ?_
        intro e0 w1 h
        obtain ⟨g, d, rfl, hO, hB1⟩ := h.good HR.out
        rw [Hlu.out]
        have c1 := lex_any x2 m w1 (by have := Hx2.out; omega) (max_later Hm.out hB1)
        have C1 := Lib.hid c1
        have HB1 := Lib.hid hB1
        have HO := Lib.hid hO
        clear c1 hB1 h hO
        go_wp2_with fail
        refine C1.out.mono ?_
        intro e0 w2 h
        obtain ⟨g2, d2, rfl, hO2, hb2⟩ := h.good HR2.out
        rw [Hlv.out]
        have hB2 := HB1.out.trans (hb2.mono HB1.out.size)
        have r1 : Rs encT w2 (some ⟨g, 0, none⟩) us := by
          have := (HO.out.is encT_ok).later hb2
          rw [Hts.out] at this
          exact this.take
        have r2 : Rs encT w2 (some ⟨g2, 0, none⟩) us := (hO2.is encT_ok).take
        have hd1 := own_cap HO.out
        have hd2 := own_cap hO2
        rw [Hlu.out] at hd1
        rw [Hlv.out] at hd2
        have hmr := Lib.hid (max_later Hm.out hB2)
        have HB2 := Lib.hid hB2
        have R1 := Lib.hid r1
        have R2 := Lib.hid r2
        clear hB2 h hO2 hb2 r1 r2
        have k2 : (us.length : Int) ≤ (d : Int) := by omega
        have k3 : (us.length : Int) ≤ (d2 : Int) := by omega
        have k4 : (0 : Int) ≤ (us.length : Int) := by omega
        have kd : decide ((0 : Int) < (us.length : Int) + 1) = true := decide_eq_true k0
        have kd2 : decide ((us.length : Int) + 1 ≤ (us.length : Int) + (vs.length : Int)) = true := decide_eq_true k1
        have kw : IntKind.i64.wrap ((us.length : Int) + 1 - 1) = (us.length : Int) := by
          rw [Int.add_sub_cancel]
          exact IntWalk.i64_in _ (by omega)
        have kw2 : IntKind.i64.wrap (us.length : Int) = (us.length : Int) := IntWalk.i64_in _ (by omega)
        have kz1 : ¬ d = 0 := by omega
        have kz2 : ¬ d2 = 0 := by omega
        have kz3 : (d : Int) ≠ 0 := by omega
        have kz4 : (d2 : Int) ≠ 0 := by omega
        have ks1 := fun W => slice_to W g2 (us.length + vs.length) d2 us.length (by omega)
        have ks2 := fun W => slice_to W g (us.length + 1) d us.length (by omega)
        go_upto_region 10 with fail
        go_region_held3 (fun w' => Below w2.heap.size w2 w')
          (first | exact Below.refl _ _ | exact (Below.refl _ _).drew | exact Below.trans (by assumption) (by assumption) | exact Below.trans (by assumption) (Below.mono (by assumption) (Below.size (by assumption))) | assumption)
          (first
            | (go_at_call 12; refine (same_same (some ⟨g2, 0, none⟩) (some ⟨g, 0, none⟩) d2 d us _ (R2.out.later (by first | assumption | exact (Below.refl _ _).drew)) (R1.out.later (by first | assumption | exact (Below.refl _ _).drew)) (by omega)).mono ?_; rintro e5 w5 ⟨rfl, hB5⟩)
            | (go_at_call 14; refine (awake_any m _ (max_later hmr.out (by first | assumption | exact (Below.refl _ _).drew))).mono ?_; rintro e6 w6 ⟨rfl, hB6⟩))
        rename_i hH
        have HF := Lib.hid (HB2.out.trans (hH.mono HB2.out.size))
        clear hH hB5 hB6 ks1 ks2 kw kw2
        go_wp2_with fail
        go_ret
        exact ⟨rfl, HF.out⟩
end Go.Proofs.YtoknkgeojhekoaaDoor
