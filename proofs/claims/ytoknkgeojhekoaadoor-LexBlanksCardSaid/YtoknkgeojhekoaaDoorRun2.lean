/- The document's runs of bytes. -/
import Derived.Test.YtoknkgeojhekoaaDoorRun
namespace Go.Proofs.YtoknkgeojhekoaaDoor
open Go.RowKit Go.Shelf
set_option linter.unusedVariables false
set_option linter.unusedSimpArgs false

def kindB (k : Int) : Int → Bool := if k = 1 then sixB else if k = 2 then quadB else wordB
theorem hexB_val (c : Int) : decide (digitV c ≥ 0) = hexB c := by
  unfold digitV hexB
  cases h : digitB c with
  | true =>
    have : 48 ≤ c := by unfold digitB at h; simp at h; omega
    simp
    omega
  | false =>
    simp only [Bool.false_eq_true, if_false, Bool.false_or]
    cases h2 : (decide (97 ≤ c) && decide (c ≤ 102)) with
    | true => simp at h2; simp; omega
    | false => simp
theorem in_any (c k : Int) (w : World) (h0 : 0 ≤ c) (h9 : c ≤ 255) : Calls Tryd.prog 36 #[.int .u8 c, .int .i64 k] w fun e w' => e = .returned (.bool (kindB k c)) ∧ w = w' := by
  by_cases h1 : k = 1
  · subst h1
    have hv := hexB_val c
    obtain ⟨v, hv2⟩ : ∃ v, digitV c = v := ⟨_, rfl⟩
    rw [hv2] at hv
    have Hv := Lib.hid hv
    have Hv2 := Lib.hid hv2
    clear hv hv2
    go_enter Tryd.func36, Tryd.ntmps36
    go_wp2_with fail
    refine (dval_any c _ h0 h9).mono ?_
    rw [Hv2.out]
    rintro e w2 ⟨rfl, rfl⟩
    cases hd : decide (v ≥ 0) <;> cases h5 : (c == 58) <;>
    · have := Hv.out
      rw [hd] at this
      have Ht := Lib.hid this
      clear this
      go_wp2_with fail
      go_ret
      refine ⟨?_, rfl⟩
      have := Ht.out
      simp [kindB, sixB, ← this, h5]
      try simpa using h5
  · have k1 : (k == 1) = false := by simpa using h1
    by_cases h2 : k = 2
    · subst h2
      go_enter Tryd.func36, Tryd.ntmps36
      go_wp2_with fail
      refine (rdigit_any c _).mono ?_
      rintro e w2 ⟨rfl, rfl⟩
      cases hd : digitB c <;> cases h5 : (c == 46) <;>
      · go_wp2_with fail
        go_ret
        refine ⟨?_, rfl⟩
        simp [kindB, quadB, hd, h5]
        try simpa using h5
    · have k2 : (k == 2) = false := by simpa using h2
      go_enter Tryd.func36, Tryd.ntmps36
      go_wp2_with fail
      refine (rdigit_any c _).mono ?_
      rintro e w2 ⟨rfl, rfl⟩
      cases hd : digitB c with
      | true =>
        go_wp2_with fail
        go_ret
        refine ⟨?_, rfl⟩
        simp [kindB, wordB, hd, h1, h2]
      | false =>
        go_wp2_with fail
        refine (rletter_any c _).mono ?_
        rintro e w2 ⟨rfl, rfl⟩
        go_wp2_with fail
        go_ret
        refine ⟨?_, rfl⟩
        simp [kindB, wordB, hd, h1, h2]
theorem u8_range (b : UInt8) : (0 : Int) ≤ (b.toNat : Int) ∧ (b.toNat : Int) ≤ 255 := by
  have := b.toNat_lt
  omega
set_option maxRecDepth 100000 in
theorem rrun_any (k : Int) (s : ByteArray) (at0 : Nat) (w : World) (hs : s.size ≤ 4611686018427387904) (hat : at0 ≤ s.size) :
    Calls Tryd.prog 22 #[.string s, .int .i64 at0, .int .i64 k] w fun e w' => e = .returned (.string (s.extract at0 (at0 + runN (kindB k) (s.data.toList.drop at0)))) ∧ w = w' := by
  obtain ⟨r, hr⟩ : ∃ r, runN (kindB k) (s.data.toList.drop at0) = r := ⟨_, rfl⟩
  have hrl : at0 + r ≤ s.size := by have := runN_le (kindB k) (s.data.toList.drop at0); rw [hr, List.length_drop, size_list] at this; omega
  have Hr := Lib.hid hr
  rw [hr]
  clear hr
  go_enter Tryd.func22, Tryd.ntmps22
  go_wp2_with fail
  go_loopw [7] (fun x wr => ∃ i : Nat, x = .int .i64 i ∧ at0 ≤ i ∧ i ≤ at0 + r ∧ w = wr) (fun x _ => s.size - (intOf x).toNat)
  case atStart => exact ⟨at0, rfl, by omega, by omega, rfl⟩
  case round =>
    obtain ⟨i, rfl, hi, hi2, rfl⟩ := hrel
    have i0 : (0 : Int) ≤ (i : Int) := by omega
    have ia : (0 : Int) ≤ (at0 : Int) := by omega
    have ib : (at0 : Int) ≤ (i : Int) := by omega
    have i2 : (i : Int) ≤ (s.size : Int) := by omega
    have Hi := Lib.hid hi
    have Hi2 := Lib.hid hi2
    have Hrl := Lib.hid hrl
    clear hi hi2 hrl
    by_cases hlt : i < s.size
    · have i1 : (i : Int) < (s.size : Int) := by omega
      have hstep := runN_step (kindB k) (s.data.toList.drop at0) (i - at0) (by rw [List.length_drop, size_list]; have := Hi.out; omega) (by rw [Hr.out]; have := Hi2.out; have := Hi.out; omega)
      have hg : (s.data.toList.drop at0)[i - at0]'(by rw [List.length_drop, size_list]; have := Hi.out; omega) = s[i] := by
        rw [List.getElem_drop, ← byte_get s i hlt]
        congr 1
        have := Hi.out
        omega
      rw [hg, Hr.out] at hstep
      have Hstep := Lib.hid hstep
      clear hstep hg
      go_wp2_with fail
      refine (in_any _ k _ (u8_range _).1 (u8_range _).2).mono ?_
      obtain ⟨b, hb⟩ : ∃ b, kindB k (s[i].toNat : Int) = b := ⟨_, rfl⟩
      have hstep := Hstep.out
      rw [hb] at hstep ⊢
      rintro e w2 ⟨rfl, rfl⟩
      have Hs := Lib.hid hstep
      clear hstep hb
      cases b with
      | true =>
        go_wp2_with fail
        go_round
        case rel => exact ⟨i + 1, by go_num, by have := Hi.out; omega, by have := Hs.out.1 trivial; have := Hi.out; omega, by trivial⟩
        case measure => simp [intOf]; omega
      | false =>
        have hin : at0 + r = i := by have := Hs.out.2 rfl; have := Hi.out; omega
        have Hin := Lib.hid hin
        clear hin
        go_wp2_with fail
        go_ret
        rw [Hin.out]
        exact ⟨rfl, rfl⟩
    · have hie : at0 + r = i := by have := Hrl.out; have := Hi2.out; omega
      have Hie := Lib.hid hie
      have i1 : ¬ (i : Int) < (s.size : Int) := by omega
      clear hie
      go_wp2_with fail
      go_ret
      rw [Hie.out]
      exact ⟨by first | rfl | (rw [← Hc2.out]; rfl), rfl⟩
set_option maxRecDepth 100000 in
theorem rcount_any (s : ByteArray) (c : UInt8) (w : World) (hs : s.size ≤ 4611686018427387904) :
    Calls Tryd.prog 23 #[.string s, .int .u8 (c.toNat : Int)] w fun e w' => e = .returned (.int .i64 ((s.data.toList.count c : Nat) : Int)) ∧ w = w' := by
  obtain ⟨r, hr⟩ : ∃ r, s.data.toList.count c = r := ⟨_, rfl⟩
  have Hr := Lib.hid hr
  rw [hr]
  clear hr
  go_enter Tryd.func23, Tryd.ntmps23
  go_wp2_with fail
  go_loopw [6, 5] (fun x y wr => ∃ i m : Nat, x = .int .i64 i ∧ y = .int .i64 m ∧ i ≤ s.size ∧ m ≤ i ∧ m + (s.data.toList.drop i).count c = r ∧ w = wr) (fun x _ _ => s.size - (intOf x).toNat)
  case atStart => exact ⟨0, 0, rfl, rfl, by omega, by omega, by have := Hr.out; simpa using this, rfl⟩
  case round =>
    obtain ⟨i, m, rfl, rfl, hi, hm, hc, rfl⟩ := hrel
    have Hc := Lib.hid hc
    clear hc
    by_cases hlt : i < s.size
    · have i0 : (0 : Int) ≤ (i : Int) := by omega
      have i1 : (i : Int) < (s.size : Int) := by omega
      have hc := Hc.out
      rw [List.drop_eq_getElem_cons (by rw [size_list]; exact hlt), List.count_cons, byte_get s i hlt] at hc
      have Hc2 := Lib.hid hc
      clear hc
      cases he : ((s[i].toNat : Int) == (c.toNat : Int)) with
      | true =>
        have e2 : s[i] = c := UInt8.toNat_inj.1 (by simp at he; omega)
        have hc := Hc2.out
        rw [if_pos (by simp [e2])] at hc
        have Hc3 := Lib.hid hc
        clear hc e2
        go_wp2_with fail
        go_round
        case rel => exact ⟨i + 1, m + 1, by go_num, by go_num, by omega, by omega, by have := Hc3.out; omega, by trivial⟩
        case measure => simp [intOf]; omega
      | false =>
        have e2 : ¬ s[i] = c := fun e => by rw [e] at he; simp at he
        have hc := Hc2.out
        rw [if_neg (by simpa using e2)] at hc
        have Hc3 := Lib.hid hc
        clear hc e2
        go_wp2_with fail
        go_round
        case rel => exact ⟨i + 1, m, by go_num, rfl, by omega, by omega, by have := Hc3.out; omega, by trivial⟩
        case measure => simp [intOf]; omega
    · have hc := Hc.out
      rw [List.drop_of_length_le (by rw [size_list]; omega)] at hc
      have hc : m = r := by simpa using hc
      have Hc2 := Lib.hid hc
      have i1 : ¬ (i : Int) < (s.size : Int) := by omega
      clear hc
      go_wp2_with fail
      go_ret
      exact ⟨by first | rfl | (rw [← Hc2.out]; rfl), rfl⟩
end Go.Proofs.YtoknkgeojhekoaaDoor
