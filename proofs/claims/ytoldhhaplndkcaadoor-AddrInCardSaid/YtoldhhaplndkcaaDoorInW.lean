/- In: walked, for both. -/
import Derived.Test.YtoldhhaplndkcaaDoorNetR
import Derived.BigQuiet
import Derived.Deep.QuietTactic
namespace Go.Proofs.YtoldhhaplndkcaaDoor
open Go.RowKit Go.Shelf Go.Deep
set_option linter.unusedVariables false
set_option linter.unusedSimpArgs false

theorem rnet_any (A : Option Addr) (c : Nat) (xs : List UInt8) (bits : Int) (w : World) (hA : Rs encU1 w A xs) (hl : xs.length ≤ 140737488351232) :
    Calls Tryd.prog 18 #[.slice A xs.length c, .int .i64 bits] w (NetEnd w xs bits) := by
  by_cases h4 : xs.length = 4 ∨ xs.length = 16
  · by_cases hb : 0 ≤ bits ∧ bits ≤ 8 * (xs.length : Int)
    · obtain ⟨hb0, hb1⟩ := hb
      have HE := Lib.hid (net_ok h4 hb0 hb1)
      have CM := Lib.hid (rmask_any A c xs bits w hA (by omega) hb0 (by omega))
      obtain ⟨L, hL⟩ : ∃ L, xs.length = L := ⟨_, rfl⟩
      have HL := Lib.hid hL
      have q1 : ((L : Int) != 4) = true ∧ ((L : Int) != 16) = false ∨ ((L : Int) != 4) = false := by
        rcases h4 with h | h
        · right; rw [← hL, h]; rfl
        · left; rw [← hL, h]; exact ⟨rfl, rfl⟩
      have hL16 : L ≤ 16 := by omega
      rw [hL] at hb1 CM ⊢
      have b0 : ¬ bits < 0 := by omega
      have b1 : ¬ bits > 8 * (L : Int) := by omega
      clear h4 hL hl hA
      rcases q1 with ⟨q1, q2⟩ | q1
      all_goals
        go_enter Tryd.func18, Tryd.ntmps18
        go_wp2_with fail
        with_reducible refine CM.out.mono ?_
        rintro e w1 ⟨g, c2, rfl, ho, hB⟩
        have HR := Lib.hid (And.intro ho hB)
        clear ho hB
        go_wp2_with fail
        go_ret2
        refine ⟨some ⟨g, 0, none⟩, c2, ?_, ?_, HR.out.2⟩
        · rw [HE.out.1, HE.out.2, maskL_len, HL.out]
          rfl
        · rw [HE.out.2, maskL_len, HL.out]
          exact HR.out.1
    · have hE := net_bits h4 hb
      have HE := Lib.hid hE
      clear hE
      have q1 : ((xs.length : Int) != 4) = true ∧ ((xs.length : Int) != 16) = false ∨ ((xs.length : Int) != 4) = false := by
        rcases h4 with h | h
        · right; rw [h]; rfl
        · left; rw [h]; exact ⟨rfl, rfl⟩
      have q2 : bits < 0 ∨ (¬ bits < 0 ∧ bits > 8 * (xs.length : Int)) := by omega
      have hl16 : (xs.length : Int) ≤ 16 := by omega
      clear h4 hb
      rcases q1 with ⟨q1, q3⟩ | q1 <;> rcases q2 with q2 | ⟨q2, q4⟩
      all_goals
        go_enter Tryd.func18, Tryd.ntmps18
        go_wp2_with fail
        go_ret2
        exact ⟨none, 0, by rw [HE.out.1, HE.out.2]; rfl, by rw [HE.out.2]; exact own_nil _ _ _ _, Below.refl _ _⟩
  · have hE := net_form (bits := bits) h4
    have HE := Lib.hid hE
    have q1 : ((xs.length : Int) != 4) = true := by rw [bne_iff_ne]; omega
    have q2 : ((xs.length : Int) != 16) = true := by rw [bne_iff_ne]; omega
    clear hE h4
    go_enter Tryd.func18, Tryd.ntmps18
    go_wp2_with fail
    go_ret2
    exact ⟨none, 0, by rw [HE.out.1, HE.out.2]; rfl, by rw [HE.out.2]; exact own_nil _ _ _ _, Below.refl _ _⟩
set_option maxHeartbeats 1000000 in
theorem rsame_any (A B : Option Addr) (c d : Nat) (xs ys : List UInt8) (w : World) (hA : Rs encU1 w A xs) (hB : Rs encU1 w B ys) (hl : xs.length ≤ 4611686018427387904) (hlen : xs.length = ys.length) :
    Calls Tryd.prog 48 #[.slice A xs.length c, .slice B ys.length d] w fun e w' => e = .returned (.bool (decide (xs = ys))) ∧ Below w.heap.size w w' := by
  have HA := Lib.hid hA
  have HB := Lib.hid hB
  have Hlen := Lib.hid hlen
  clear hA hB
  rw [← hlen]
  clear hlen
  go_enter Tryd.func48, Tryd.ntmps48
  go_wp2_with fail
  go_loopw [5] (fun x wr => ∃ i : Nat, i ≤ xs.length ∧ x = .int .i64 i ∧ xs.take i = ys.take i ∧ Below w.heap.size w wr) (fun x _ => xs.length - (intOf x).toNat)
  case atStart => exact ⟨0, by omega, rfl, rfl, Below.refl _ _⟩
  case round =>
    obtain ⟨i, hi, rfl, htake, hBB⟩ := hrel
    have Htake := Lib.hid htake
    have HBB := Lib.hid hBB
    clear htake hBB
    by_cases hlt : i < xs.length
    · obtain ⟨b, o, rfl, -⟩ := HA.out (by omega)
      obtain ⟨b2, o2, rfl, -⟩ := HB.out (by rw [← Hlen.out]; omega)
      obtain ⟨x, hx⟩ : ∃ x, xs[i]? = some x := ⟨_, List.getElem?_eq_getElem hlt⟩
      obtain ⟨y, hy⟩ : ∃ y, ys[i]? = some y := ⟨_, List.getElem?_eq_getElem (by rw [← Hlen.out]; exact hlt)⟩
      have c0 := bytes_cell (HA.out.later HBB.out) hx
      have e0 := bytes_cell (HB.out.later HBB.out) hy
      have Hx := Lib.hid hx
      have Hy := Lib.hid hy
      have hi0 : (0 : Int) ≤ (i : Int) := by omega
      have hi1 : (i : Int) < (xs.length : Int) := by omega
      clear hx hy
      by_cases hd : x = y
      · have hxy := Lib.hid hd
        have d1 := bytes_eq hd
        clear hd
        go_wp2_with fail
        go_quiet (fail)
        go_wp2_with fail
        go_roundw
        case rel => exact ⟨i + 1, by omega, by go_num, by rw [take_succ_getD Hx.out, take_succ_getD Hy.out, Htake.out, hxy.out], belowN HBB.out _⟩
        case measure => simp [intOf]; omega
      · have hxy := Lib.hid hd
        have d1 := bytes_ne hd
        clear hd
        go_wp2_with fail
        go_quiet (fail)
        go_wp2_with fail
        go_ret
        refine ⟨?_, belowN HBB.out _⟩
        have hne : ¬ xs = ys := fun h => hxy.out (by have h1 := Hx.out; rw [h, Hy.out] at h1; exact (Option.some.inj h1).symm)
        simp [hne]
    · have hie : i = xs.length := by omega
      have heq : xs = ys := by
        have h := Htake.out
        rw [List.take_of_length_le (by omega), List.take_of_length_le (by rw [← Hlen.out]; omega)] at h
        exact h
      have Heq := Lib.hid heq
      clear heq hie
      go_wp2
      go_ret
      exact ⟨by simp [Heq.out], HBB.out⟩
theorem convU {W : World} {A : Option Addr} {c : Nat} {l : List UInt8} (h : Rs encU1 W A l) (hp : 0 < l.length) : (convert 34 9 (.slice A l.length c)).run Tryd.prog W = .ok (.string (bs l)) W := by
  obtain ⟨b, o, rfl, -⟩ := h hp
  refine run_convert_bytes_back (P := Tryd.prog) W 34 9 5 ⟨b, o, none⟩ c l Tryd.underlying34 Tryd.underlying5 Tryd.underlying9 fun j hj => ?_
  have h2 := bytes_cell h (List.getElem?_eq_getElem hj)
  rw [add_plain]
  exact h2
theorem bs_beq (a b : List UInt8) : ((bs a).toList == (bs b).toList) = decide (a = b) := by
  rw [ByteArray.toList_eq, ByteArray.toList_eq, bs_list, bs_list]
  exact (Bool.eq_iff_iff.2 (by rw [beq_iff_eq, decide_eq_true_iff]))
/-- Is it in the net. -/
def inL (xs ys : List UInt8) (bits : Int) : Bool × Nat := if xs.length ≠ ys.length then (false, 60) else if netE xs bits ≠ 0 then (false, netE xs bits) else if maskL bits ys ≠ ys then (false, 62) else (decide (maskL bits xs = ys), 0)
/-- Net where it answers. -/
theorem net_yes (A : Option Addr) (c : Nat) (xs : List UInt8) (bits : Int) (w : World) (n : Nat) (hA : Rs encU1 w A xs) (hn : xs.length = n) (hE : netE xs bits = 0) :
    Calls Tryd.prog 20 #[.slice A n c, .int .i64 bits] w fun e w' => ∃ A2 c2, e = .returned (.tuple #[.slice A2 n c2, .int .i64 0]) ∧ Rs encU1 w' A2 (maskL bits xs) ∧ Below w.heap.size w w' := by
  subst hn
  have h4 : xs.length = 4 ∨ xs.length = 16 := by
    unfold netE at hE
    split at hE
    · assumption
    · cases hE
  refine (net_any A c xs bits w hA (by omega)).mono ?_
  rintro e w' ⟨A2, c2, he, ho, hB⟩
  have hr : netR xs bits = maskL bits xs := by unfold netR; rw [if_pos hE]
  rw [hr, maskL_len, hE] at he
  rw [hr] at ho
  refine ⟨A2, c2, he, ?_, hB⟩
  obtain ⟨A3, c3, e3, hR⟩ := ho.rs encU1_ok
  cases e3
  exact hR
theorem net_no (A : Option Addr) (c : Nat) (xs : List UInt8) (bits : Int) (w : World) (n : Nat) (hA : Rs encU1 w A xs) (hl : xs.length ≤ 140737488351232) (hn : xs.length = n) (hE : netE xs bits ≠ 0) :
    Calls Tryd.prog 20 #[.slice A n c, .int .i64 bits] w fun e w' => ∃ A2 c2, e = .returned (.tuple #[.slice A2 0 c2, .int .i64 (netE xs bits : Int)]) ∧ Below w.heap.size w w' := by
  subst hn
  refine (net_any A c xs bits w hA hl).mono ?_
  rintro e w' ⟨A2, c2, he, ho, hB⟩
  have hr : netR xs bits = [] := by unfold netR; rw [if_neg hE]
  rw [hr] at he
  exact ⟨A2, c2, he, hB⟩
set_option maxRecDepth 100000 in
set_option maxHeartbeats 1600000 in
theorem in_any (A B : Option Addr) (c d : Nat) (xs ys : List UInt8) (bits : Int) (w : World) (hA : Rs encU1 w A xs) (hB : Rs encU1 w B ys) (hl : xs.length ≤ 140737488351232) :
    Calls Tryd.prog 25 #[.slice A xs.length c, .slice B ys.length d, .int .i64 bits] w fun e w' => e = .returned (.tuple #[.bool (inL xs ys bits).1, .int .i64 ((inL xs ys bits).2 : Int)]) ∧ Below w.heap.size w w' := by
  by_cases hlen : xs.length = ys.length
  · obtain ⟨n, hn⟩ : ∃ n, xs.length = n := ⟨_, rfl⟩
    have hn2 : ys.length = n := by rw [← hlen, hn]
    have Hl := Lib.hid hl
    have Hlen := Lib.hid hlen
    have HN := Lib.hid hn
    have HN2 := Lib.hid hn2
    rw [hn, hn2]
    have t0 : ((n : Int) != (n : Int)) = false := by rw [bne_eq_false_iff_eq]
    have HA := Lib.hid hA
    have HB := Lib.hid hB
    clear hA hB hlen hn hn2 hl
    by_cases hE : netE xs bits = 0
    · have hE2 : netE ys bits = 0 := by
        unfold netE at *
        rw [← Hlen.out]
        exact hE
      have hn4 : n = 4 ∨ n = 16 := by
        unfold netE at hE
        rw [HN.out] at hE
        split at hE
        · assumption
        · cases hE
      have C1 := Lib.hid (net_yes A c xs bits w n HA.out HN.out hE)
      have HE := Lib.hid (And.intro hE hE2)
      have HI := Lib.hid (show inL xs ys bits = if maskL bits ys ≠ ys then (false, 62) else (decide (maskL bits xs = ys), 0) from by unfold inL; rw [if_neg (fun h => h Hlen.out), if_neg (fun h => h hE)])
      have h4 : 0 < n := by omega
      clear hE hE2 hn4
      go_enter Tryd.func25, Tryd.ntmps25
      go_wp2_with fail
      with_reducible refine C1.out.mono ?_
      rintro e w1 ⟨A1, c1, rfl, hR1, hB1⟩
      have C2 := Lib.hid (net_yes B d ys bits w1 n (HB.out.later hB1) HN2.out HE.out.2)
      have HR1 := Lib.hid hR1
      have HB1 := Lib.hid hB1
      clear hR1 hB1
      go_wp2_with fail
      with_reducible refine C2.out.mono ?_
      rintro e w2 ⟨A2, c2, rfl, hR2, hB2⟩
      have hk1 := convU (c := c1) (HR1.out.later hB2) (by rw [maskL_len, HN.out]; exact h4)
      have hk2 := convU (c := c2) hR2 (by rw [maskL_len, HN2.out]; exact h4)
      have hB12 := HB1.out.trans (hB2.mono HB1.out.size)
      have hk3 := convU (c := d) (HB.out.later hB12) (by rw [HN2.out]; exact h4)
      rw [maskL_len, HN.out] at hk1
      rw [maskL_len, HN2.out] at hk2
      rw [HN2.out] at hk3
      have HB12 := Lib.hid hB12
      clear hR2 hB2 hB12
      by_cases hq : maskL bits ys = ys
      · have q1 : ((bs (maskL bits ys)).toList == (bs ys).toList) = true := by rw [hq]; exact beq_self_eq_true _
        have q2 : ((bs (maskL bits xs)).toList == (bs (maskL bits ys)).toList) = decide (maskL bits xs = ys) := by rw [bs_beq, hq]
        have hI := HI.out
        rw [if_neg (fun h => h hq)] at hI
        have HI := Lib.hid hI
        clear hq hI
        go_wp2_with fail
        go_ret2
        rw [HI.out]
        exact ⟨rfl, HB12.out⟩
      · have q1 : ((bs (maskL bits ys)).toList == (bs ys).toList) = false := by rw [bs_beq]; exact decide_eq_false hq
        have hI := HI.out
        rw [if_pos hq] at hI
        have HI := Lib.hid hI
        clear hq hI
        go_wp2_with fail
        go_ret2
        rw [HI.out]
        exact ⟨rfl, HB12.out⟩
    · have C1 := Lib.hid (net_no A c xs bits w n HA.out Hl.out HN.out hE)
      have HI := Lib.hid (show inL xs ys bits = (false, netE xs bits) from by unfold inL; rw [if_neg (fun h => h Hlen.out), if_pos hE])
      obtain ⟨k, hk⟩ : ∃ k, netE xs bits = k := ⟨_, rfl⟩
      rw [hk] at hE HI C1
      have q1 : ((k : Int) != 0) = true := by rw [bne_iff_ne]; omega
      clear hk hE
      go_enter Tryd.func25, Tryd.ntmps25
      go_wp2_with fail
      with_reducible refine C1.out.mono ?_
      rintro e w1 ⟨A1, c1, rfl, hB1⟩
      have HB1 := Lib.hid hB1
      clear hB1
      go_wp2_with fail
      go_ret2
      rw [HI.out]
      exact ⟨rfl, HB1.out⟩
  · have t0 : ((xs.length : Int) != (ys.length : Int)) = true := by rw [bne_iff_ne]; omega
    have hi : inL xs ys bits = (false, 60) := by unfold inL; rw [if_pos hlen]
    rw [hi]
    clear hi hlen hA hB
    go_enter Tryd.func25, Tryd.ntmps25
    go_wp2_with fail
    go_ret2
    exact ⟨rfl, Below.refl _ _⟩
set_option maxRecDepth 100000 in
set_option maxHeartbeats 1600000 in
theorem rin_any (A B : Option Addr) (c d : Nat) (xs ys : List UInt8) (bits : Int) (w : World) (hA : Rs encU1 w A xs) (hB : Rs encU1 w B ys) (hl : xs.length ≤ 140737488351232) (hl2 : ys.length ≤ 140737488351232) :
    Calls Tryd.prog 26 #[.slice A xs.length c, .slice B ys.length d, .int .i64 bits] w fun e w' => e = .returned (.tuple #[.bool (inL xs ys bits).1, .int .i64 ((inL xs ys bits).2 : Int)]) ∧ Below w.heap.size w w' := by
  by_cases h4 : xs.length = 4 ∨ xs.length = 16
  · have q0 : ((xs.length : Int) != 4) = true ∧ ((xs.length : Int) != 16) = false ∨ ((xs.length : Int) != 4) = false := by
      rcases h4 with h | h
      · right; rw [h]; rfl
      · left; rw [h]; exact ⟨rfl, rfl⟩
    by_cases hlen : xs.length = ys.length
    · obtain ⟨n, hn⟩ : ∃ n, xs.length = n := ⟨_, rfl⟩
      have hn2 : ys.length = n := by rw [← hlen, hn]
      by_cases hb : 0 ≤ bits ∧ bits ≤ 8 * (xs.length : Int)
      · obtain ⟨hb0, hb1⟩ := hb
        have hE := (net_ok h4 hb0 hb1).1
        have HI := Lib.hid (show inL xs ys bits = if maskL bits ys ≠ ys then (false, 62) else (decide (maskL bits xs = ys), 0) from by unfold inL; rw [if_neg (fun h => h hlen), if_neg (fun h => h hE)])
        have C1 := Lib.hid (rmask_any B d ys bits w hB (by omega) hb0 (by omega))
        have C3 := Lib.hid (fun W (h : Below w.heap.size w W) => rmask_any A c xs bits W (hA.later h) (by omega) hb0 (by omega))
        have HN := Lib.hid hn
        have HN2 := Lib.hid hn2
        have HB := Lib.hid hB
        have HA := Lib.hid hA
        rw [hn] at q0 hb1 C3
        rw [hn2] at C1
        rw [hn, hn2]
        have b0 : ¬ bits < 0 := by omega
        have b1 : ¬ bits > 8 * (n : Int) := by omega
        have t0 : ((n : Int) != (n : Int)) = false := by rw [bne_eq_false_iff_eq]
        have n16 : n ≤ 16 := by omega
        clear hA hB hlen hn hn2 hl hl2 h4 hE
        rcases q0 with ⟨q0, q1⟩ | q0
        all_goals
          go_enter Tryd.func26, Tryd.ntmps26
          go_wp2_with fail
          with_reducible refine C1.out.mono ?_
          rintro e w1 ⟨g1, c1, rfl, ho1, hB1⟩
          have C2 := rsame_any (some ⟨g1, 0, none⟩) B c1 d (maskL bits ys) ys w1 (OwnG.is encU1_ok ho1) (HB.out.later hB1) (by rw [maskL_len, HN2.out]; omega) (maskL_len _ _)
          rw [maskL_len, HN2.out] at C2
          have C2 := Lib.hid C2
          have HB1 := Lib.hid hB1
          clear ho1 hB1
          go_wp2_with fail
          with_reducible refine C2.out.mono ?_
          rintro e w2 ⟨rfl, hB2⟩
          have HB2 := Lib.hid (HB1.out.trans (hB2.mono HB1.out.size))
          clear hB2
          have hI := HI.out
          by_cases hq : maskL bits ys = ys
          · have q9 : decide (maskL bits ys = ys) = true := decide_eq_true hq
            rw [if_neg (fun h => h hq)] at hI
            have HI2 := Lib.hid hI
            rw [q9]
            clear hI hq q9
            go_wp2_with fail
            with_reducible refine (C3.out _ HB2.out).mono ?_
            rintro e w3 ⟨g3, c3, rfl, ho3, hB3⟩
            have HB3 := Lib.hid (HB2.out.trans (hB3.mono HB2.out.size))
            have C4 := rsame_any (some ⟨g3, 0, none⟩) B c3 d (maskL bits xs) ys w3 (OwnG.is encU1_ok ho3) (HB.out.later HB3.out) (by rw [maskL_len, HN.out]; omega) (by rw [maskL_len, HN.out, HN2.out])
            rw [maskL_len, HN.out, HN2.out] at C4
            have C4 := Lib.hid C4
            clear ho3 hB3
            go_wp2_with fail
            with_reducible refine C4.out.mono ?_
            rintro e w4 ⟨rfl, hB4⟩
            have HB4 := Lib.hid (HB3.out.trans (hB4.mono HB3.out.size))
            clear hB4
            go_wp2_with fail
            go_ret2
            rw [HI2.out]
            exact ⟨rfl, HB4.out⟩
          · have q9 : decide (maskL bits ys = ys) = false := decide_eq_false hq
            rw [if_pos hq] at hI
            have HI2 := Lib.hid hI
            rw [q9]
            clear hI hq q9
            go_wp2_with fail
            go_ret2
            rw [HI2.out]
            exact ⟨rfl, HB2.out⟩
      · have hE := (net_bits h4 hb).1
        have HI := Lib.hid (show inL xs ys bits = (false, 61) from by unfold inL; rw [if_neg (fun h => h hlen), if_pos (by rw [hE]; decide), hE])
        have q2 : bits < 0 ∨ (¬ bits < 0 ∧ bits > 8 * (xs.length : Int)) := by omega
        rw [hn] at q0 q2 h4
        rw [hn, hn2]
        have t0 : ((n : Int) != (n : Int)) = false := by rw [bne_eq_false_iff_eq]
        have n16 : n ≤ 16 := by omega
        clear hA hB hlen hn hn2 hl hl2 hE hb h4
        rcases q0 with ⟨q0, q1⟩ | q0 <;> rcases q2 with q2 | ⟨q2, q4⟩
        all_goals
          go_enter Tryd.func26, Tryd.ntmps26
          go_wp2_with fail
          go_ret2
          rw [HI.out]
          exact ⟨rfl, Below.refl _ _⟩
    · have t0 : ((ys.length : Int) != (xs.length : Int)) = true := by rw [bne_iff_ne]; omega
      have hi : inL xs ys bits = (false, 60) := by unfold inL; rw [if_pos hlen]
      rw [hi]
      clear hi hlen hA hB h4
      rcases q0 with ⟨q0, q1⟩ | q0
      all_goals
        go_enter Tryd.func26, Tryd.ntmps26
        go_wp2_with fail
        go_ret2
        exact ⟨rfl, Below.refl _ _⟩
  · have q1 : ((xs.length : Int) != 4) = true := by rw [bne_iff_ne]; omega
    have q2 : ((xs.length : Int) != 16) = true := by rw [bne_iff_ne]; omega
    have hE := (net_form (bits := bits) h4).1
    have hi : inL xs ys bits = (false, 60) := by
      unfold inL
      split
      · rfl
      · rw [if_pos (by rw [hE]; decide), hE]
    rw [hi]
    clear hi hE hA hB h4
    go_enter Tryd.func26, Tryd.ntmps26
    go_wp2_with fail
    go_ret2
    exact ⟨rfl, Below.refl _ _⟩
end Go.Proofs.YtoldhhaplndkcaaDoor
