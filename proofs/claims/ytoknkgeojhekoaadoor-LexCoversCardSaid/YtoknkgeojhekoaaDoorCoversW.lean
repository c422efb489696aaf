/- LexCovers: the walk. -/
import Derived.Test.YtoknkgeojhekoaaDoorAloneW
import Derived.Deep.CutBlock
import Derived.IntWalk
namespace Go.Proofs.YtoknkgeojhekoaaDoor
open Go.RowKit Go.Shelf
set_option linter.unusedVariables false
set_option linter.unusedSimpArgs false

/-- What is ahead at a place where no blank stands. -/
theorem lexL_cut {l : List UInt8} {at0 : Nat} {ts : List Tk} (h : lexL l at0 = .ok ts) : (l = [] ∧ ts = [endT at0]) ∨ (∃ b l0, l = b :: l0 ∧ (blankB (b.toNat : Int) = true ∧ lexL l0 (at0 + 1) = .ok ts ∨
    blankB (b.toNat : Int) = false ∧ ∃ t us, ts = t :: us ∧ t.at0 = at0 ∧ 1 ≤ t.text.size ∧ t.text.size ≤ l.length ∧ t.text = ⟨(l.take t.text.size).toArray⟩ ∧ lexL (l.drop t.text.size) (at0 + t.text.size) = .ok us)) := by
  cases l with
  | nil =>
    rw [lexL_nil] at h
    exact .inl ⟨rfl, (Except.ok.inj h).symm⟩
  | cons b l0 =>
    refine .inr ⟨b, l0, rfl, ?_⟩
    cases hb : blankB (b.toNat : Int) with
    | true =>
      rw [lexL_blank hb] at h
      exact .inl ⟨rfl, h⟩
    | false =>
      refine .inr ⟨rfl, ?_⟩
      by_cases he : (tokR (b :: l0)).err = 0
      · rw [lexL_tok hb he] at h
        obtain ⟨us, hu, rfl⟩ := preL_ok h
        have hl := tokR_len he
        have hsz : (tkAt (b :: l0) at0).text.size = (tokR (b :: l0)).len := by
          unfold tkAt
          show ((b :: l0).take _).toArray.size = _
          rw [List.size_toArray, List.length_take, List.length_cons]
          omega
        refine ⟨tkAt (b :: l0) at0, us, rfl, rfl, by rw [hsz]; exact hl.1, by rw [hsz]; exact hl.2, by rw [hsz]; rfl, by rw [hsz]; exact hu⟩
      · rw [lexL_bad hb he] at h
        cases h
set_option maxRecDepth 100000 in
set_option maxHeartbeats 3200000 in
theorem covers_law (s : ByteArray) (m : Int) (w : World) (hs : s.size ≤ 4611686018427387904) (hm : w.cell? ⟨0, 0, none⟩ = some (.int .i64 m)) :
    Calls Tryd.prog 4 #[.string s] w fun e w' => e = .returned (.bool true) ∧ Below w.heap.size w w' := by
  have c0 := lex_any s m w hs hm
  have C0 := Lib.hid c0
  have Hm := Lib.hid hm
  clear c0 hm
  cases hR : lexS s with
  | error p =>
    have hne : (p.2 == 0) = false := by
      rw [beq_eq_false_iff_ne]
      exact lexS_err hR
    have HR := Lib.hid hR
    clear hR
    go_enter Tryd.func4, Tryd.ntmps4
    go_wp2_with fail
    refine C0.out.mono ?_
    intro e w1 h
    obtain ⟨rfl, hB1⟩ := h.bad HR.out
    have c6 := awake_any m w1 (max_later Hm.out hB1)
    have C6 := Lib.hid c6
    have HB1 := Lib.hid hB1
    clear c6 hB1 h
    go_wp2_with fail
    refine C6.out.mono ?_
    rintro e w7 ⟨rfl, hB7⟩
    have HF := Lib.hid (HB1.out.trans (hB7.mono HB1.out.size))
    clear hB7
    go_wp2_with fail
    go_ret
    exact ⟨rfl, HF.out⟩
  | ok ts =>
    obtain ⟨hlen, hpos, hsz⟩ := lexS_length hR
    have hL : lexL s.data.toList 0 = .ok ts := by
      unfold lexS at hR
      rwa [if_neg (by omega)] at hR
    obtain ⟨us, hts, hok, hus, hul, -⟩ := lexL_ok hL
    have hlu : ts.length = us.length + 1 := by rw [hts]; simp
    have hlast : ts[us.length]? = some ⟨0, (s.size : Int), ⟨#[]⟩, 0⟩ := by
      rw [hts]
      simp
    have HR := Lib.hid hR
    have HL := Lib.hid hL
    have Hlu := Lib.hid hlu
    have Hlast := Lib.hid hlast
    have hul : us.length ≤ 65536 := by rw [size_list] at hul; omega
    clear hR hL hts hok hus hlu hlen hpos hlast
    go_enter Tryd.func4, Tryd.ntmps4
    go_wp2_with fail
    refine C0.out.mono ?_
    intro e w1 h
    obtain ⟨g, d, rfl, hO, hB1⟩ := h.good HR.out
    rw [Hlu.out]
    have hrs := hO.is encT_ok
    have hg := (own_lt hO (b := g) rfl).2
    obtain ⟨c0, c1, c2, c3⟩ := cells0 hrs Hlast.out
    have HB1 := Lib.hid hB1
    have Hrs := Lib.hid hrs
    have t2 : tkB ⟨0, (s.size : Int), ⟨#[]⟩, 0⟩ ⟨0, (s.size : Int), ⟨#[]⟩, 0⟩ = true := tkB_self _
    clear hO hB1 hrs h
    have hz : ((us.length : Int) + 1 == 0) = false := by
      rw [beq_eq_false_iff_ne]
      omega
    go_wp2_with fail
    clear c0 c1 c2 c3 t2
    go_loopg [6, 7] (us.length + 1) (fun gk s6 s7 wr => ∃ i pos : Nat, i + gk = us.length + 1 ∧ s7 = .int .i64 i ∧ s6 = .int .i64 pos ∧ pos ≤ s.size ∧ (if i ≤ us.length then lexL (s.data.toList.drop pos) pos = .ok (ts.drop i) else pos = s.size) ∧ Below w1.heap.size w1 wr)
    case atStart => exact ⟨0, 0, by omega, rfl, rfl, by omega, by rw [if_pos (by omega)]; exact HL.out, Below.refl _ _⟩
    case round =>
      obtain ⟨i, pos, hig, rfl, rfl, hps, hrel, hBr⟩ := hrel
      have HBr := Lib.hid hBr
      have hBw := HB1.out.trans (hBr.mono HB1.out.size)
      have hmr := max_later Hm.out hBw
      have HBw := Lib.hid hBw
      have i0 : (0 : Int) ≤ (i : Int) := by omega
      cases gk with
      | zero =>
        rw [if_neg (by omega)] at hrel
        subst hrel
        have i1 : ¬ (i : Int) < (us.length : Int) + 1 := by omega
        have c6 := awake_any m wr hmr
        have C6 := Lib.hid c6
        clear c6 hmr hBr hBw
        go_wp2_with fail
        refine C6.out.mono ?_
        rintro e w7 ⟨rfl, hB7⟩
        have HF := Lib.hid (HBw.out.trans (hB7.mono HBw.out.size))
        clear hB7
        go_wp2_with fail
        go_ret
        exact ⟨rfl, HF.out⟩
      | succ gn =>
        rw [if_pos (by omega)] at hrel
        have HRel := Lib.hid hrel
        have i1 : (i : Int) < (us.length : Int) + 1 := by omega
        clear hmr hBr hBw hrel
        obtain ⟨wo, rfl⟩ : ∃ wo : World, wo = wr := ⟨_, rfl⟩
        go_upto_block 2 with fail
        go_cut [6] (fun s6 W => ∃ pos : Nat, s6 = .int .i64 pos ∧ pos ≤ s.size ∧ Aside (lexL (s.data.toList.drop pos) pos = .ok (ts.drop i) ∧ (∀ h : pos < s.size, blankB (s[pos].toNat : Int) = false)) ∧ wo = W)
        case first =>
          go_wp2_with fail
          go_loopg [6] (s.size - pos) (fun g2 s6 wr => ∃ p2 : Nat, p2 + g2 = s.size ∧ s6 = .int .i64 p2 ∧ Aside (lexL (s.data.toList.drop p2) p2 = .ok (ts.drop i)) ∧ wo = wr)
          case atStart => exact ⟨pos, by omega, rfl, HRel.out, rfl⟩
          case round =>
            obtain ⟨p2, hpg, rfl, hA, rfl⟩ := hrel
            have p0 : (0 : Int) ≤ (p2 : Int) := by omega
            cases gk with
            | zero =>
              have p1 : ¬ (p2 : Int) < (s.size : Int) := by omega
              go_wp2_with fail
              go_meet
              exact ⟨p2, rfl, by omega, ⟨hA.out, fun h => absurd h (by omega)⟩, rfl⟩
            | succ g3 =>
              have hlt : p2 < s.size := by omega
              have p1 : (p2 : Int) < (s.size : Int) := by omega
              obtain ⟨b, hb⟩ : ∃ b, blankB (s[p2].toNat : Int) = b := ⟨_, rfl⟩
              have cb := rblank_any (s[p2].toNat : Int) wo
              rw [hb] at cb
              have Cb := Lib.hid cb
              have Hb := Lib.hid hb
              clear cb hb
              cases b with
              | true =>
                go_wp2_with fail
                refine Cb.out.mono ?_
                rintro e w2 ⟨rfl, rfl⟩
                go_wp2_with fail
                go_roundg g3
                case measure => omega
                case rel => exact ⟨p2 + 1, by omega, by go_num, by
                    have h := hA.out
                    rw [drop_byte hlt, lexL_blank Hb.out] at h
                    exact h, by trivial⟩
              | false =>
                go_wp2_with fail
                refine Cb.out.mono ?_
                rintro e w2 ⟨rfl, rfl⟩
                go_wp2_with fail
                go_meet
                exact ⟨p2, rfl, by omega, ⟨hA.out, fun _ => Hb.out⟩, rfl⟩
        case rest =>
          obtain ⟨p2, rfl, hp2, hA, hw⟩ := hcut
          obtain ⟨hA1, hA2⟩ := hA.out
          have Hw := Lib.hid hw
          have HBc : Hid (Below w1.heap.size w1 wc) := Lib.hid (by rw [← hw]; exact HBr.out)
          clear hA hw
          have hex : ∃ t : Tk, ts[i]? = some t ∧ t.at0 = (p2 : Int) ∧ p2 + t.text.size ≤ s.size ∧ s.extract p2 (p2 + t.text.size) = t.text ∧ (i < us.length → 1 ≤ t.text.size) ∧ (if i + 1 ≤ us.length then lexL (s.data.toList.drop (p2 + t.text.size)) (p2 + t.text.size) = .ok (ts.drop (i + 1)) else p2 + t.text.size = s.size) := by
            have hil : i < ts.length := by rw [Hlu.out]; omega
            rcases lexL_cut hA1 with ⟨h1, h2⟩ | ⟨b, l0, h1, h2⟩
            · have hp : p2 = s.size := by
                have := congrArg List.length h1
                rw [List.length_drop, size_list, List.length_nil] at this
                omega
              have hl : ts.length - i = 1 := by
                have := congrArg List.length h2
                rw [List.length_drop] at this
                exact this
              refine ⟨endT p2, ?_, rfl, by show p2 + 0 ≤ _; omega, ?_, fun h => by rw [Hlu.out] at hl; omega, ?_⟩
              · have := congrArg (fun l => l[0]?) h2
                rw [List.getElem?_drop, Nat.add_zero] at this
                exact this
              · show s.extract p2 (p2 + 0) = ⟨#[]⟩
                exact extract_nil s p2
              · rw [if_neg (by rw [Hlu.out] at hl; omega)]
                exact hp
            · have hlt : p2 < s.size := by
                have := congrArg List.length h1
                rw [List.length_drop, size_list, List.length_cons] at this
                omega
              have hbl := hA2 hlt
              rw [drop_byte hlt] at h1
              have hb : s[p2] = b := (List.cons.inj h1).1
              rw [hb] at hbl
              rcases h2 with ⟨h3, _⟩ | ⟨h3, t, vs, h4, h5, h6, h7, h8, h9⟩
              · rw [hbl] at h3
                cases h3
              · have hne : i + 1 ≤ us.length := by
                  rcases Nat.lt_or_ge us.length (i + 1) with h | h
                  · have hv : vs = [] := by
                      have := congrArg List.length h4
                      rw [List.length_drop, Hlu.out, List.length_cons] at this
                      exact List.eq_nil_of_length_eq_zero (by omega)
                    rw [hv] at h9
                    obtain ⟨_, hx, _⟩ := lexL_ok h9
                    simp at hx
                  · exact h
                rw [List.length_drop, size_list] at h7
                refine ⟨t, ?_, h5, by omega, ?_, fun _ => h6, ?_⟩
                · have := congrArg (fun l => l[0]?) h4
                  rw [List.getElem?_drop, Nat.add_zero] at this
                  exact this
                · rw [extract_take]
                  exact h8.symm
                · rw [if_pos hne]
                  rw [List.drop_drop] at h9
                  rw [h9]
                  congr 1
                  have := congrArg (List.drop 1) h4
                  rw [List.drop_drop] at this
                  exact this.symm
          obtain ⟨t, hti, hta, hb1, hb2, hb3, hnext⟩ := hex
          obtain ⟨c0, c1, c2, c3⟩ := cells0 (Hrs.out.later HBc.out) hti
          rw [hta] at c1
          obtain ⟨T, hT⟩ : ∃ T, t.text = T := ⟨_, rfl⟩
          rw [hT] at c2 hb1 hb2 hb3 hnext
          have p0 : (0 : Int) ≤ (p2 : Int) := by omega
          have b1 : (p2 : Int) + (T.size : Int) ≤ (s.size : Int) := by omega
          have b0 : (p2 : Int) ≤ (p2 : Int) + (T.size : Int) := by omega
          have Hti := Lib.hid hti
          have Hb1 := Lib.hid hb1
          have Hn := Lib.hid hnext
          have Hb3 := Lib.hid hb3
          clear hti hta hT hnext hA1 hA2 hb3
          have hbd : decide ((s.size : Int) < (p2 : Int) + (T.size : Int)) = false := decide_eq_false (by omega)
          have hwr : IntKind.i64.wrap ((p2 : Int) + (T.size : Int)) = (p2 : Int) + (T.size : Int) := IntWalk.i64_in _ (by omega)
          have hnn : ((p2 : Int) + (T.size : Int)).toNat = p2 + T.size := by omega
          have bp : (0 : Int) ≤ (p2 : Int) + (T.size : Int) := by omega
          clear hb1
          by_cases hi : i < us.length
          · have hz2 : ((T.size : Int) == 0) = false := by
              rw [beq_eq_false_iff_ne]
              have := Hb3.out hi
              omega
            go_wp2_with fail
            go_quiet (fail)
            clear hwr hnn hbd
            go_wp2_with fail
            go_roundg gn
            case measure => omega
            case rel => exact ⟨i + 1, p2 + T.size, by omega, by go_num, by go_num, Hb1.out, Hn.out, belowN HBc.out _⟩
          · have hi2 : ¬ (i : Int) < (us.length : Int) := by omega
            cases hz2 : ((T.size : Int) == 0) with
            | true =>
              go_wp2_with fail
              go_quiet (fail)
              clear hwr hnn hbd
              go_wp2_with fail
              go_roundg gn
              case measure => omega
              case rel => exact ⟨i + 1, p2 + T.size, by omega, by go_num, by go_num, Hb1.out, Hn.out, belowN HBc.out _⟩
            | false =>
              go_wp2_with fail
              go_quiet (fail)
              clear hwr hnn hbd
              go_wp2_with fail
              go_roundg gn
              case measure => omega
              case rel => exact ⟨i + 1, p2 + T.size, by omega, by go_num, by go_num, Hb1.out, Hn.out, belowN HBc.out _⟩
end Go.Proofs.YtoknkgeojhekoaaDoor
