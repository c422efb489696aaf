/- LexAlone: the walk. -/
import Derived.Test.YtoknkgeojhekoaaDoorPlain2
namespace Go.Proofs.YtoknkgeojhekoaaDoor
open Go.RowKit Go.Shelf
set_option linter.unusedVariables false
set_option linter.unusedSimpArgs false

theorem cells0 {w : World} {g i : Nat} {xs : List Tk} {x : Tk} (h : Rs encT w (some ⟨g, 0, none⟩) xs) (hi : xs[i]? = some x) :
    w.cell? ⟨g, i * 4, none⟩ = some (.int .i64 x.kind) ∧ w.cell? ⟨g, i * 4 + 1, none⟩ = some (.int .i64 x.at0) ∧ w.cell? ⟨g, i * 4 + 2, none⟩ = some (.string x.text) ∧ w.cell? ⟨g, i * 4 + 3, none⟩ = some (.int .u32 x.n) := by
  have := tk_cells h hi
  rwa [Nat.zero_add] at this
theorem get_init {us : List Tk} {e : Tk} {i : Nat} (h : i < us.length) : ∃ t, (us ++ [e])[i]? = some t ∧ t ∈ us :=
  ⟨us[i], by rw [List.getElem?_append_left h, List.getElem?_eq_getElem h], List.getElem_mem h⟩
set_option maxRecDepth 100000 in
set_option maxHeartbeats 1600000 in
theorem alone_law (s : ByteArray) (m : Int) (w : World) (hs : s.size ≤ 4611686018427387904) (hm : w.cell? ⟨0, 0, none⟩ = some (.int .i64 m)) :
    Calls Tryd.prog 5 #[.string s] w fun e w' => e = .returned (.bool true) ∧ Below w.heap.size w w' := by
  have c0 := lex_any s m w hs hm
  have C0 := Lib.hid c0
  have Hm := Lib.hid hm
  clear c0 hm
  cases hR : lexS s with
  | error p =>
    have hne : (p.2 == 0) = false := by
      rw [beq_eq_false_iff_ne]
      exact lexS_err hR
    have HR := Lib.hid hR
    clear hR
    go_enter Tryd.func5, Tryd.ntmps5
    go_wp2_with fail
    refine C0.out.mono ?_
    intro e w1 h
    obtain ⟨rfl, hB1⟩ := h.bad HR.out
    have c6 := awake_any m w1 (max_later Hm.out hB1)
    have C6 := Lib.hid c6
    have HB1 := Lib.hid hB1
    clear c6 hB1 h
    go_wp2_with fail
    refine C6.out.mono ?_
    rintro e w7 ⟨rfl, hB7⟩
    have HF := Lib.hid (HB1.out.trans (hB7.mono HB1.out.size))
    clear hB7
    go_wp2_with fail
    go_ret
    exact ⟨rfl, HF.out⟩
  | ok ts =>
    obtain ⟨hlen, hpos, hsz⟩ := lexS_length hR
    have hL : lexL s.data.toList 0 = .ok ts := by
      unfold lexS at hR
      rwa [if_neg (by omega)] at hR
    obtain ⟨us, hts, hok, hus, hul, -⟩ := lexL_ok hL
    have hlu : ts.length = us.length + 1 := by rw [hts]; simp
    have HR := Lib.hid hR
    have Hts := Lib.hid hts
    have Hok := Lib.hid hok
    have Hus := Lib.hid hus
    have Hlu := Lib.hid hlu
    have hul : us.length ≤ 65536 := by rw [size_list] at hul; omega
    clear hR hL hts hok hus hlu hlen hpos
    go_enter Tryd.func5, Tryd.ntmps5
    go_wp2_with fail
    refine C0.out.mono ?_
    intro e w1 h
    obtain ⟨g, d, rfl, hO, hB1⟩ := h.good HR.out
    rw [Hlu.out]
    have hrs := hO.is encT_ok
    have hg := (own_lt hO (b := g) rfl).2
    have HB1 := Lib.hid hB1
    have Hrs := Lib.hid hrs
    clear hO hB1 hrs h
    go_wp2_with fail
    go_loopg [6, 7, 8, 9, 10] us.length (fun gk s6 s7 s8 s9 s10 wr => ∃ i : Nat, i + gk = us.length ∧ s6 = .int .i64 i ∧ Below w1.heap.size w1 wr)
    case atStart => exact ⟨0, by omega, rfl, Below.refl _ _⟩
    case round =>
      obtain ⟨i, hig, rfl, hBr⟩ := hrel
      have HBr := Lib.hid hBr
      have hBw := HB1.out.trans (hBr.mono HB1.out.size)
      have hmr := max_later Hm.out hBw
      have HBw := Lib.hid hBw
      have i0 : (0 : Int) ≤ (i : Int) := by omega
      clear hBr hBw
      have c6 := awake_any m wr hmr
      have C6 := Lib.hid c6
      clear c6
      by_cases hstop : gk = 0 ∨ 200 ≤ i
      · have hbool : (decide ((i : Int) + 1 < (us.length : Int) + 1) && decide ((i : Int) < 200)) = false := by
          simp
          omega
        clear hmr
        rcases hstop with h0 | h0
        · have i1 : ¬ (i : Int) + 1 < (us.length : Int) + 1 := by omega
          go_wp2_with fail
          refine C6.out.mono ?_
          rintro e w7 ⟨rfl, hB7⟩
          have HF := Lib.hid (HBw.out.trans (hB7.mono HBw.out.size))
          clear hB7
          go_wp2_with fail
          go_ret
          exact ⟨rfl, HF.out⟩
        · have i2 : ¬ (i : Int) < 200 := by omega
          by_cases hlt : (i : Int) + 1 < (us.length : Int) + 1
          all_goals
            go_wp2_with fail
            refine C6.out.mono ?_
            rintro e w7 ⟨rfl, hB7⟩
            have HF := Lib.hid (HBw.out.trans (hB7.mono HBw.out.size))
            clear hB7
            go_wp2_with fail
            go_ret
            exact ⟨rfl, HF.out⟩
      · have i1 : (i : Int) + 1 < (us.length : Int) + 1 := by omega
        have i2 : (i : Int) < 200 := by omega
        have i3 : (i : Int) < (us.length : Int) + 1 := by omega
        have hiu : i < us.length := by omega
        obtain ⟨t, hti, htm⟩ := get_init (e := endT (0 + s.data.toList.length)) hiu
        rw [← Hts.out] at hti
        have tok := Hok.out t htm
        have hls := lexS_one tok (by have := Hus.out t htm; rw [size_list] at this; omega)
        obtain ⟨c0, c1, c2, c3⟩ := cells0 (Hrs.out.later HBr.out) hti
        have cl := lex_any t.text m wr (by have := Hus.out t htm; rw [size_list] at this; omega) hmr
        have Cl := Lib.hid cl
        have Hls := Lib.hid hls
        have Hti := Lib.hid hti
        clear cl hls tok hti htm hstop hmr hiu
        go_wp2_with fail
        refine Cl.out.mono ?_
        intro e w2 h
        obtain ⟨g2, d2, rfl, hO2, hB2⟩ := h.good Hls.out
        have hrs2 := hO2.is encT_ok
        obtain ⟨x0, x1, x2, x3⟩ := cells0 hrs2 (i := 0) rfl
        obtain ⟨y0, y1, y2, y3⟩ := cells0 hrs2 (i := 1) rfl
        simp only [Nat.zero_mul, Nat.one_mul, Nat.zero_add, Nat.reduceAdd] at x0 x1 x2 x3 y0 y1 y2 y3
        have hg2 := (own_lt hO2 (b := g2) rfl).2
        obtain ⟨c0, c1, c2, c3⟩ := cells0 ((Hrs.out.later HBr.out).later hB2) Hti.out
        have hgw : g < w2.heap.size := by have := HBr.out.size; have := hB2.size; omega
        have HB2 := Lib.hid (HBr.out.trans (hB2.mono HBr.out.size))
        have HS2 := Lib.hid HB2.out.size
        have t1 : tkB ⟨t.kind, 0, t.text, t.n⟩ ⟨t.kind, 0, t.text, t.n⟩ = true := tkB_self _
        have t2 : tkB ⟨0, (t.text.size : Int), ⟨#[]⟩, 0⟩ ⟨0, (t.text.size : Int), ⟨#[]⟩, 0⟩ = true := tkB_self _
        clear hB2 hO2 hrs2 h Cl C6
        go_wp2_with fail
        go_quiet (fail)
        go_wp2_with fail
        go_roundg (gk - 1)
        case measure => omega
        case rel => exact ⟨i + 1, by omega, by go_num, by first | exact belowN (HB2.out.alloc HS2.out _) _ | exact (HB2.out.alloc HS2.out _)⟩
end Go.Proofs.YtoknkgeojhekoaaDoor
