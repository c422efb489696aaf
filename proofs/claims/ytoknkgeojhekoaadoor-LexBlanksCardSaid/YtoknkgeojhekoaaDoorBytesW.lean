/- LexBytes: the walk. -/
import Derived.Test.YtoknkgeojhekoaaDoorFirstW
namespace Go.Proofs.YtoknkgeojhekoaaDoor
open Go.RowKit Go.Shelf
set_option linter.unusedVariables false
set_option linter.unusedSimpArgs false

/-- Is a byte one that a token has, but for the point, or a blank? -/
def okB (b : UInt8) : Bool := blankB (b.toNat : Int) || digitB (b.toNat : Int) || letterB (b.toNat : Int) || decide (0 < signN [b])
theorem bytes_bad {s x1 x2 : ByteArray} {b : UInt8} {ts : List Tk} (h1 : s ++ (⟨#[32]⟩ : ByteArray) = x1) (h2 : x1 ++ (⟨#[b]⟩ : ByteArray) = x2) (hs : s.size ≤ 65534) (h : lexS s = .ok ts) (hb : okB b = false) : lexS x2 = .error (s.size + 1, 101) := by
  have hz : x2.size = s.size + 1 + 1 := by rw [← h2, ← h1, ByteArray.size_append, ByteArray.size_append]; rfl
  rw [lexS_of (by omega)] at h ⊢
  have e : x2.data.toList = s.data.toList ++ 32 :: [b] := by
    rw [← h2, ← h1, append_list, append_list]
    simp
  rw [e]
  obtain ⟨us, hts, _⟩ := lexL_ok h
  rw [hts] at h
  rw [(lexL_more (c := 32) (by decide) [b] s.data.toList 0).2 us _ h]
  unfold okB at hb
  simp only [Bool.or_eq_false_iff, decide_eq_false_iff_not] at hb
  obtain ⟨⟨⟨b1, b2⟩, b3⟩, b4⟩ := hb
  have ht : tokR [b] = ⟨101, 0, 0, 0⟩ := by
    unfold tokR
    rw [if_neg (by
      have h1 := List.count_le_length (a := 58) (l := [b].take (runN sixB [b]))
      rw [List.length_take] at h1
      have : min (runN sixB [b]) [b].length ≤ 1 := Nat.min_le_right _ _
      omega), if_neg (by show ¬ digitB (b.toNat : Int) = true; rw [b2]; simp), if_neg (by show ¬ letterB (b.toNat : Int) = true; rw [b3]; simp), if_pos (by omega)]
  rw [lexL_bad b1 (by rw [ht]; decide), ht, size_list, Nat.zero_add]
  rfl
theorem ok_dot {b : UInt8} (h : okB b = true) : ((b.toNat : Int) == 46) = false := by
  rw [beq_eq_false_iff_ne]
  intro e
  have e : b = 46 := by
    apply UInt8.toNat_inj.1
    show b.toNat = 46
    omega
  subst e
  have : okB 46 = false := by decide
  rw [this] at h
  cases h
theorem lex_some {w : World} {R : LexR} {e : Ending} {w' : World} (h : LexPost w R e w') : ∃ A n c a k, e = .returned (.tuple #[.slice A n c, .int .i64 a, .int .i64 k]) ∧ Below w.heap.size w w' := by
  cases hR : R with
  | error p =>
    obtain ⟨h1, h2⟩ := h.bad hR
    exact ⟨_, _, _, _, _, h1, h2⟩
  | ok ts =>
    obtain ⟨g, d, h1, _, h2⟩ := h.good hR
    exact ⟨_, _, _, _, _, h1, h2⟩
theorem ranges (c : Int) : c < 48 ∨ (48 ≤ c ∧ c ≤ 57) ∨ (57 < c ∧ c < 97) ∨ (97 ≤ c ∧ c ≤ 122) ∨ 122 < c := by omega
theorem sign_len (b : UInt8) : ((⟨#[b]⟩ : ByteArray).extract 0 (0 + signN [b])).size = signN [b] := by
  rw [ByteArray.size_extract]
  have := (signN_le [b]).2
  have h1 : (⟨#[b]⟩ : ByteArray).size = 1 := rfl
  rw [h1]
  simp at this
  omega
set_option maxRecDepth 100000 in
set_option maxHeartbeats 3200000 in
theorem bytes_law (s : ByteArray) (c : Int) (m : Int) (w : World) (hs : s.size ≤ 140737488351232) (hc : 0 ≤ c ∧ c ≤ 255) (hm : w.cell? ⟨0, 0, none⟩ = some (.int .i64 m)) :
    Calls Tryd.prog 8 #[.string s, .int .u8 c] w fun e w' => e = .returned (.bool true) ∧ Below w.heap.size w w' := by
  obtain ⟨b, rfl⟩ : ∃ b : UInt8, c = (b.toNat : Int) := by
    refine ⟨UInt8.ofNat c.toNat, ?_⟩
    rw [UInt8.toNat_ofNat_of_lt' (by show c.toNat < 256; omega)]
    omega
  have c0 := lex_any s m w (by omega) hm
  have C0 := Lib.hid c0
  have Hm := Lib.hid hm
  clear c0 hm
  by_cases hgo : 65534 < s.size ∨ ∃ p, lexS s = .error p
  · have hB : ∀ e w', LexPost w (lexS s) e w' → ∃ A n c a k, e = .returned (.tuple #[.slice A n c, .int .i64 a, .int .i64 k]) ∧ Below w.heap.size w w' ∧ ((k == 0) = false ∧ (k != 0) = true ∨ k = 0 ∧ decide ((65534 : Int) < (s.size : Int)) = true) := by
      intro e w' h
      cases hR : lexS s with
      | error p =>
        obtain ⟨h1, h2⟩ := h.bad hR
        exact ⟨_, _, _, _, _, h1, h2, .inl ⟨by rw [beq_eq_false_iff_ne]; exact lexS_err hR, by rw [bne_iff_ne]; exact lexS_err hR⟩⟩
      | ok ts =>
        obtain ⟨g, d, h1, _, h2⟩ := h.good hR
        refine ⟨_, _, _, _, _, h1, h2, .inr ⟨rfl, decide_eq_true ?_⟩⟩
        rcases hgo with h | ⟨p, h⟩
        · omega
        · rw [hR] at h; cases h
    have HB := Lib.hid hB
    clear hB hgo
    go_enter Tryd.func8, Tryd.ntmps8
    go_wp2_with fail
    refine C0.out.mono ?_
    intro e w1 h
    obtain ⟨A, n, c, a, k, rfl, hB1, hk⟩ := HB.out e w1 h
    have c6 := awake_any m w1 (max_later Hm.out hB1)
    have C6 := Lib.hid c6
    have HB1 := Lib.hid hB1
    clear c6 hB1 h
    rcases hk with ⟨hk, hk2⟩ | ⟨rfl, hk2⟩
    all_goals
      go_wp2_with fail
      refine C6.out.mono ?_
      rintro e w7 ⟨rfl, hB7⟩
      have HF := Lib.hid (HB1.out.trans (hB7.mono HB1.out.size))
      clear hB7
      go_wp2_with fail
      go_ret
      exact ⟨rfl, HF.out⟩
  · have hs2 : s.size ≤ 65534 := by
      rcases Nat.lt_or_ge 65534 s.size with h | h
      · exact absurd (.inl h) hgo
      · exact h
    obtain ⟨ts, hR⟩ : ∃ ts, lexS s = .ok ts := by
      cases h : lexS s with
      | error p => exact absurd (.inr ⟨p, h⟩) hgo
      | ok ts => exact ⟨ts, rfl⟩
    have hsd : decide ((65534 : Int) < (s.size : Int)) = false := decide_eq_false (by omega)
    obtain ⟨hlen, hpos, -⟩ := lexS_length hR
    obtain ⟨x1, hx1⟩ : ∃ x, s ++ (⟨#[32]⟩ : ByteArray) = x := ⟨_, rfl⟩
    obtain ⟨x2, hx2⟩ : ∃ x, x1 ++ (⟨#[b]⟩ : ByteArray) = x := ⟨_, rfl⟩
    have hz1 : x1.size = s.size + 1 := by rw [← hx1, ByteArray.size_append]; rfl
    have hz2 : x2.size = s.size + 1 + 1 := by rw [← hx2, ByteArray.size_append, hz1]; rfl
    have hadd1 := fun W => add_strs (by rw [one_size]; omega) hx1 W
    have hadd2 := fun W => add_strs (by rw [one_size]; omega) hx2 W
    have Hx2 := Lib.hid (show x2.size ≤ 65536 by omega)
    have hbad := fun h => bytes_bad hx1 hx2 hs2 hR h
    have Hbad := Lib.hid hbad
    have HR := Lib.hid hR
    have p0 : (0 : Int) < (ts.length : Int) := by omega
    have p1 : (0 : Int) ≤ (s.size : Int) := by omega
    clear hgo hbad hR hx1 hx2 hz1 hz2 hlen
    obtain ⟨bl, hbl⟩ : ∃ x, blankB (b.toNat : Int) = x := ⟨_, rfl⟩
    have Hbl := Lib.hid hbl
    clear hbl
    have p2 : s.size ≤ 65534 := hs2
    go_enter Tryd.func8, Tryd.ntmps8
    go_wp2_with fail
    refine C0.out.mono ?_
    intro e w1 h
    obtain ⟨g, d, rfl, hO, hB1⟩ := h.good HR.out
    have HB1 := Lib.hid hB1
    clear hB1 h hO
    go_upto_region 4 with fail
    go_cut [8] (fun s8 W => s8 = .bool (okB b || ((b.toNat : Int) == 46)) ∧ Below w1.heap.size w1 W)
    case first =>
      have cb := rblank_any (b.toNat : Int) w1
      rw [Hbl.out] at cb
      have Cb := Lib.hid cb
      clear cb hadd1 hadd2 p0 p1 p2 hsd
      cases bl with
      | true =>
        go_wp2_with fail
        refine Cb.out.mono ?_
        rintro e w2 ⟨rfl, rfl⟩
        go_wp2_with fail
        go_meet
        exact ⟨by unfold okB; rw [Hbl.out]; rfl, Below.refl _ _⟩
      | false =>
        have cs := rsign_any ⟨#[b]⟩ 0 (w1.alloc (.cells #[.int .u8 (b.toNat : Int)] 5)) (by show 1 ≤ 4611686018427387904; decide) (by show 0 < 1; decide)
        have hsl := sign_len b
        rw [show List.drop 0 (⟨#[b]⟩ : ByteArray).data.toList = [b] from rfl] at cs
        obtain ⟨t, ht⟩ : ∃ t, (⟨#[b]⟩ : ByteArray).extract 0 (0 + signN [b]) = t := ⟨_, rfl⟩
        rw [ht] at cs hsl
        have Cs := Lib.hid cs
        have Hsl := Lib.hid hsl
        clear cs hsl ht
        obtain ⟨dt, hdt⟩ : ∃ x, ((b.toNat : Int) == 46) = x := ⟨_, rfl⟩
        obtain ⟨sg, hsg⟩ : ∃ x, decide (0 < t.size) = x := ⟨_, rfl⟩
        have Hsg := Lib.hid hsg
        have hok : Hid (okB b = (digitB (b.toNat : Int) || letterB (b.toNat : Int) || sg)) := Lib.hid (by
          unfold okB
          rw [Hbl.out, ← Hsg.out, Bool.false_or]
          congr 1
          rw [Hsl.out])
        clear hsg
        rcases ranges (b.toNat : Int) with h | ⟨h, h'⟩ | ⟨h, h'⟩ | ⟨h, h'⟩ | h
        case inr.inl =>
          have Hdg : Hid (digitB (b.toNat : Int) = true) := Lib.hid (by unfold digitB; simp; omega)
          have d1 : decide ((b.toNat : Int) ≥ 48) = true := decide_eq_true h
          have d2 : decide ((b.toNat : Int) ≤ 57) = true := decide_eq_true h'
          clear h h'
          go_wp2_with fail
          refine Cb.out.mono ?_
          rintro e w2 ⟨rfl, rfl⟩
          go_wp2_with fail
          go_meet
          exact ⟨by rw [hok.out, Hdg.out]; rfl, Below.refl _ _⟩
        case inr.inr.inr.inl =>
          have Hdg : Hid (letterB (b.toNat : Int) = true) := Lib.hid (by unfold letterB; simp; omega)
          have d1 : decide ((b.toNat : Int) ≥ 48) = true := decide_eq_true (by omega)
          have d2 : decide ((b.toNat : Int) ≤ 57) = false := decide_eq_false (by omega)
          have d3 : decide ((b.toNat : Int) ≥ 97) = true := decide_eq_true h
          have d4 : decide ((b.toNat : Int) ≤ 122) = true := decide_eq_true h'
          clear h h'
          go_wp2_with fail
          refine Cb.out.mono ?_
          rintro e w2 ⟨rfl, rfl⟩
          go_wp2_with fail
          go_meet
          exact ⟨by rw [hok.out, Hdg.out]; cases digitB (b.toNat : Int) <;> rfl, Below.refl _ _⟩
        all_goals
          have Hdg : Hid (digitB (b.toNat : Int) = false ∧ letterB (b.toNat : Int) = false) := Lib.hid (by unfold letterB digitB; simp; omega)
          obtain ⟨q1, hd1⟩ : ∃ q, decide ((b.toNat : Int) ≥ 48) = q := ⟨_, rfl⟩
          obtain ⟨q2, hd2⟩ : ∃ q, decide ((b.toNat : Int) ≤ 57) = q := ⟨_, rfl⟩
          obtain ⟨q3, hd3⟩ : ∃ q, decide ((b.toNat : Int) ≥ 97) = q := ⟨_, rfl⟩
          obtain ⟨q4, hd4⟩ : ∃ q, decide ((b.toNat : Int) ≤ 122) = q := ⟨_, rfl⟩
          have hq1 : (q1 && q2) = false := by rw [← hd1, ← hd2]; simp; omega
          have hq3 : (q3 && q4) = false := by rw [← hd3, ← hd4]; simp; omega
          have Hq1 := Lib.hid hq1
          have Hq3 := Lib.hid hq3
          clear hq1 hq3 h
          try clear h'
          cases dt with
          | true =>
            cases q1 <;> cases q2 <;> cases q3 <;> cases q4 <;> first | (have := Hq1.out; cases this; done) | (have := Hq3.out; cases this; done) | skip
            all_goals
              go_wp2_with fail
              refine Cb.out.mono ?_
              rintro e w2 ⟨rfl, rfl⟩
              go_wp2_with fail
              go_meet
              exact ⟨by first | rfl | rw [Bool.or_true] | (rw [hdt, Bool.or_true]), Below.refl _ _⟩
          | false =>
            cases q1 <;> cases q2 <;> cases q3 <;> cases q4 <;> first | (have := Hq1.out; cases this; done) | (have := Hq3.out; cases this; done) | skip
            all_goals
              go_wp2_with fail
              refine Cb.out.mono ?_
              rintro e w2 ⟨rfl, rfl⟩
              go_wp2_with fail
              refine Cs.out.mono ?_
              rintro e w2 ⟨rfl, rfl⟩
              go_wp2_with fail
              go_meet
              exact ⟨by rw [hok.out, Hdg.out.1, Hdg.out.2, ← Hsg.out]; first | (rw [hdt]; simp; done) | simp, (Below.refl _ _).alloc (Nat.le_refl _) _⟩
    case rest =>
      obtain ⟨rfl, hBc⟩ := hcut
      have hBw := HB1.out.trans (hBc.mono HB1.out.size)
      have HBw := Lib.hid hBw
      have c1 := lex_any x2 m (wc.alloc (.cells #[.int .u8 (b.toNat : Int)] 5)) (by have := Hx2.out; omega) (max_later (max_later Hm.out hBw) ((Below.refl _ _).alloc (Nat.le_refl _) _))
      have C1 := Lib.hid c1
      clear c1 hBw hBc
      cases hok : okB b with
      | true =>
        have hdt := ok_dot hok
        have Hok := Lib.hid hok
        clear hok
        go_wp2_with fail
        refine C1.out.mono ?_
        intro e w2 h
        obtain ⟨A, n, c, a, k, rfl, hB2⟩ := lex_some h
        have hB2 := HBw.out.trans (((Below.refl _ _).alloc (Nat.le_refl _) _ : Below wc.heap.size wc (wc.alloc (.cells #[.int .u8 (b.toNat : Int)] 5))).mono HBw.out.size |>.trans (hB2.mono (by have := HBw.out.size; simp; omega)))
        have c6 := awake_any m w2 (max_later Hm.out hB2)
        have C6 := Lib.hid c6
        have HB2 := Lib.hid hB2
        clear c6 hB2 h
        go_wp2_with fail
        refine C6.out.mono ?_
        rintro e w7 ⟨rfl, hB7⟩
        have HF := Lib.hid (HB2.out.trans (hB7.mono HB2.out.size))
        clear hB7
        go_wp2_with fail
        go_ret
        exact ⟨rfl, HF.out⟩
      | false =>
        have HR2 := Lib.hid (Hbad.out hok)
        have Hok := Lib.hid hok
        clear hok
        cases hdt : ((b.toNat : Int) == 46)
        all_goals
          go_wp2_with fail
          refine C1.out.mono ?_
          intro e w2 h
          obtain ⟨rfl, hB2⟩ := h.bad HR2.out
          have hB2 := HBw.out.trans (((Below.refl _ _).alloc (Nat.le_refl _) _ : Below wc.heap.size wc (wc.alloc (.cells #[.int .u8 (b.toNat : Int)] 5))).mono HBw.out.size |>.trans (hB2.mono (by have := HBw.out.size; simp; omega)))
          have c6 := awake_any m w2 (max_later Hm.out hB2)
          have C6 := Lib.hid c6
          have HB2 := Lib.hid hB2
          clear c6 hB2 h
          go_wp2_with fail
          refine C6.out.mono ?_
          rintro e w7 ⟨rfl, hB7⟩
          have HF := Lib.hid (HB2.out.trans (hB7.mono HB2.out.size))
          clear hB7
          go_wp2_with fail
          go_ret
          exact ⟨rfl, HF.out⟩
end Go.Proofs.YtoknkgeojhekoaaDoor
