/- LexTokens: the walk. -/
import Derived.Test.YtoknkgeojhekoaaDoorAwake
namespace Go.Proofs.YtoknkgeojhekoaaDoor
open Go.RowKit Go.Shelf
set_option linter.unusedVariables false
set_option linter.unusedSimpArgs false

theorem lexF_length : ∀ (f : Nat) (l : List UInt8) (at0 : Nat) (ts : List Tk), lexF f l at0 = .ok ts → ts.length ≤ l.length + 1 ∧ 0 < ts.length
  | 0, _, _, _, h => by cases h
  | f + 1, [], at0, ts, h => by cases h; exact ⟨Nat.le_refl _, Nat.succ_pos _⟩
  | f + 1, b :: l, at0, ts, h => by
    unfold lexF at h
    split at h
    · have := lexF_length f l _ ts h
      rw [List.length_cons]
      omega
    · split at h
      · cases h
      · rename_i he
        have he : (tokR (b :: l)).err = 0 := by simpa using he
        have hl := tokR_len he
        cases hr : lexF f ((b :: l).drop (tokR (b :: l)).len) (at0 + (tokR (b :: l)).len) with
        | error e => rw [hr] at h; cases h
        | ok us =>
          rw [hr] at h
          have h := Except.ok.inj h
          subst h
          have := lexF_length f _ _ us hr
          rw [List.length_drop, List.length_cons] at this
          rw [List.length_append, List.length_cons, List.length_cons, List.length_nil]
          omega
theorem lexS_length {s : ByteArray} {ts : List Tk} (h : lexS s = .ok ts) : ts.length ≤ s.size + 1 ∧ 0 < ts.length ∧ s.size ≤ 65536 := by
  unfold lexS at h
  split at h
  · cases h
  · rename_i hl
    have := lexF_length _ _ _ _ h
    rw [size_list] at this
    exact ⟨this.1, this.2, by omega⟩
theorem same_same (A B : Option Addr) (c d : Nat) (xs : List Tk) (w : World) (hA : Rs encT w A xs) (hB : Rs encT w B xs) (hl : xs.length ≤ 4611686018427387904) :
    Calls Tryd.prog 12 #[.slice A xs.length c, .slice B xs.length d] w fun e w' => e = .returned (.bool true) ∧ Below w.heap.size w w' :=
  (same_any A B c d xs xs w hA hB hl hl).mono fun e w' h => ⟨by rw [h.1]; simp, h.2⟩
theorem grown_below {w w' : World} {g base : Nat} {v : Value} (h : w.grownBy w' v.ownBlock) (hb : base ≤ w.heap.size) (hv : ∀ g, v.ownBlock = some g → base ≤ g) : Below base w w' := (Below.refl base w).grown h hb (fun k e => hv k e)
set_option maxRecDepth 100000 in
set_option maxHeartbeats 1600000 in
theorem tokens_law (s : ByteArray) (m : Int) (w : World) (hs : s.size ≤ 4611686018427387904) (hm : w.cell? ⟨0, 0, none⟩ = some (.int .i64 m)) :
    Calls Tryd.prog 3 #[.string s] w fun e w' => e = .returned (.bool true) ∧ Below w.heap.size w w' := by
  have c0 := rlex_any s m w hs hm
  have C0 := Lib.hid c0
  have Hm := Lib.hid hm
  clear c0 hm
  cases hR : lexS s with
  | error p =>
    have HR := Lib.hid hR
    clear hR
    go_enter Tryd.func3, Tryd.ntmps3
    go_wp2_with fail
    refine C0.out.mono ?_
    intro e w1 h
    obtain ⟨rfl, hB1⟩ := h.bad HR.out
    have hm1 := max_later Hm.out hB1
    have c1 := lex_any s m w1 hs hm1
    have C1 := Lib.hid c1
    have HB1 := Lib.hid hB1
    clear c1 h hm1 hB1
    go_wp2_with fail
    refine C1.out.mono ?_
    intro e w2 h
    obtain ⟨rfl, hB2⟩ := h.bad HR.out
    have hB2 := HB1.out.trans (hB2.mono HB1.out.size)
    have hm2 := max_later Hm.out hB2
    have c2 := lex_any s m w2 hs hm2
    have C2 := Lib.hid c2
    have HB2 := Lib.hid hB2
    clear c2 h hm2 hB2
    go_wp2_with fail
    refine C2.out.mono ?_
    intro e w3 h
    obtain ⟨rfl, hB3⟩ := h.bad HR.out
    have hB3 := HB2.out.trans (hB3.mono HB2.out.size)
    have c3 := same_same none none 0 0 [] w3 Rs.nil Rs.nil (by simp)
    have C3 := Lib.hid c3
    have HB3 := Lib.hid hB3
    clear c3 h hB3
    go_wp2_with fail
    refine C3.out.mono ?_
    rintro e w4 ⟨rfl, hB4⟩
    have hB4 := HB3.out.trans (hB4.mono HB3.out.size)
    have c4 := spoil_any 0 none 0 0 [] w4 (own_nil _ _ _ _) (by omega)
    have C4 := Lib.hid c4
    have HB4 := Lib.hid hB4
    clear c4 hB4
    go_wp2_with fail
    refine C4.out.mono ?_
    rintro e w5 ⟨rfl, hG⟩
    have hB5 : Below w.heap.size w w5 := HB4.out.grown hG HB4.out.size (fun k e => by cases e)
    have c5 := same_same none none 0 0 [] w5 Rs.nil Rs.nil (by simp)
    have C5 := Lib.hid c5
    have HB5 := Lib.hid hB5
    clear c5 hB5 hG
    go_wp2_with fail
    refine C5.out.mono ?_
    rintro e w6 ⟨rfl, hB6⟩
    have hB6 := HB5.out.trans (hB6.mono HB5.out.size)
    have c6 := awake_any m w6 (max_later Hm.out hB6)
    have C6 := Lib.hid c6
    have HB6 := Lib.hid hB6
    clear c6 hB6
    go_wp2_with fail
    refine C6.out.mono ?_
    rintro e w7 ⟨rfl, hB7⟩
    have HF := Lib.hid (HB6.out.trans (hB7.mono HB6.out.size))
    clear hB7
    go_wp2_with fail
    go_ret
    exact ⟨rfl, HF.out⟩
  | ok ts =>
    obtain ⟨hlen, hpos, hsz⟩ := lexS_length hR
    have hts : ts.length ≤ 100000 := by omega
    have HR := Lib.hid hR
    clear hR
    go_enter Tryd.func3, Tryd.ntmps3
    go_wp2_with fail
    refine C0.out.mono ?_
    intro e w1 h
    obtain ⟨g0, d0, rfl, hO0, hB1⟩ := h.good HR.out
    have hm1 := max_later Hm.out hB1
    have c1 := lex_any s m w1 hs hm1
    have C1 := Lib.hid c1
    have HB1 := Lib.hid hB1
    have HO0 := Lib.hid hO0
    clear c1 h hm1 hB1 hO0
    go_wp2_with fail
    refine C1.out.mono ?_
    intro e w2 h
    obtain ⟨g1, d1, rfl, hO1, hb2⟩ := h.good HR.out
    have hB2 := HB1.out.trans (hb2.mono HB1.out.size)
    have hm2 := max_later Hm.out hB2
    have c2 := lex_any s m w2 hs hm2
    have C2 := Lib.hid c2
    have HB2 := Lib.hid hB2
    have Hb2 := Lib.hid hb2
    have HO1 := Lib.hid hO1
    clear c2 h hm2 hB2 hb2 hO1
    go_wp2_with fail
    refine C2.out.mono ?_
    intro e w3 h
    obtain ⟨g2, d2, rfl, hO2, hb3⟩ := h.good HR.out
    have hB3 := HB2.out.trans (hb3.mono HB2.out.size)
    have o0 : OwnG 4 encT 32 w3 w.heap.size _ ts := own_below (own_below HO0.out Hb2.out) hb3
    have o1 : OwnG 4 encT 32 w3 w1.heap.size _ ts := own_below HO1.out hb3
    have c3 := same_same (some ⟨g1, 0, none⟩) (some ⟨g0, 0, none⟩) d1 d0 ts w3 (o1.is encT_ok) (o0.is encT_ok) (by omega)
    have C3 := Lib.hid c3
    have HB3 := Lib.hid hB3
    have HO2 := Lib.hid hO2
    have Ho0 := Lib.hid o0
    have Ho1 := Lib.hid o1
    clear c3 h hB3 hb3 hO2 o0 o1
    go_wp2_with fail
    refine C3.out.mono ?_
    rintro e w4 ⟨rfl, hb4⟩
    have hB4 := HB3.out.trans (hb4.mono HB3.out.size)
    have o0 : OwnG 4 encT 32 w4 w.heap.size _ ts := own_below Ho0.out hb4
    have o1 : OwnG 4 encT 32 w4 w1.heap.size _ ts := own_below Ho1.out hb4
    have o2 : OwnG 4 encT 32 w4 w2.heap.size _ ts := own_below HO2.out hb4
    have c4 := spoil_any w1.heap.size (some ⟨g1, 0, none⟩) ts.length d1 _ w4 o1 (by omega)
    have C4 := Lib.hid c4
    have HB4 := Lib.hid hB4
    clear c4 hB4 hb4 HO2 Ho0 Ho1
    have Ho0 := Lib.hid o0
    have Ho1 := Lib.hid o1
    have Ho2 := Lib.hid o2
    clear o0 o1 o2
    go_wp2_with fail
    refine C4.out.mono ?_
    rintro e w5 ⟨rfl, hG⟩
    have hg1 := own_lt Ho1.out (b := g1) rfl
    have hB5 : Below w.heap.size w w5 := HB4.out.grown hG HB4.out.size (fun k e => by have := HB1.out.size; have e : some g1 = some k := e; cases e; omega)
    have q0 := own_lt HO0.out (b := g0) rfl
    have q1 := own_lt HO1.out (b := g1) rfl
    have q2 := own_lt Ho2.out (b := g2) rfl
    have q00 := own_lt Ho0.out (b := g0) rfl
    have o0 : OwnG 4 encT 32 w5 w.heap.size (.slice (some ⟨g0, 0, none⟩) ts.length d0) ts := own_later Ho0.out fun b e => by
      cases e
      exact hG.block _ q00.2 (by intro e; cases e; omega)
    have o2 : OwnG 4 encT 32 w5 w2.heap.size (.slice (some ⟨g2, 0, none⟩) ts.length d2) ts := own_later Ho2.out fun b e => by
      cases e
      exact hG.block _ q2.2 (by intro e; cases e; omega)
    have c5 := same_same (some ⟨g2, 0, none⟩) (some ⟨g0, 0, none⟩) d2 d0 ts w5 (o2.is encT_ok) (o0.is encT_ok) (by omega)
    have C5 := Lib.hid c5
    have HB5 := Lib.hid hB5
    clear c5 hB5 hG hg1 q0 q1 q2 q00 o0 o2
    go_wp2_with fail
    refine C5.out.mono ?_
    rintro e w6 ⟨rfl, hB6⟩
    have hB6 := HB5.out.trans (hB6.mono HB5.out.size)
    have c6 := awake_any m w6 (max_later Hm.out hB6)
    have C6 := Lib.hid c6
    have HB6 := Lib.hid hB6
    clear c6 hB6
    go_wp2_with fail
    refine C6.out.mono ?_
    rintro e w7 ⟨rfl, hB7⟩
    have HF := Lib.hid (HB6.out.trans (hB7.mono HB6.out.size))
    clear hB7
    go_wp2_with fail
    go_ret
    exact ⟨rfl, HF.out⟩
end Go.Proofs.YtoknkgeojhekoaaDoor
