/- LNum, LNumR, LSignR, LSign, LTok, LToks, LLexL, LTokR, LLexW, LAwake, LTokensW, LPlain, LPlain2, one behind the other. -/
import Derived.Test.YtffkaphbgfdpaaaGreatDoorMLa
import Derived.Test.YtffkaphbgfdpaaaGreatDoorMAa
import Derived.RegionTactic
import Derived.BigRegion
import Derived.Deep.DeepCutAuto
import Derived.Deep.CutBlock
import Derived.Below
import Derived.Deep.LoopGhost
import Derived.Deep.RegionHeld3
import Derived.WalkSpells
import Derived.Deep.QuietTactic
import Derived.BigQuiet
import Derived.Great.BuildSlice
import Derived.WalkLawsBesides
section
/- Numbers. -/
namespace Go.Proofs.YtffkaphbgfdpaaaGreatDoor.L
open Go.RowKit Go.Shelf
set_option linter.unusedVariables false
set_option maxRecDepth 100000
set_option linter.unusedSimpArgs false

/-- A digit's value; none: below 0. -/
def dig (h : Bool) (c : Int) : Int := if h then digitV c else if digitB c then c - 48 else -1
def baseI (h : Bool) : Int := if h then 16 else 10
def valL (h : Bool) : List UInt8 → Int → Option Int
  | [], v => some v
  | b :: l, v => if dig h (b.toNat : Int) < 0 then none else if v * baseI h + dig h (b.toNat : Int) > 4294967295 then none else valL h l (v * baseI h + dig h (b.toNat : Int))
/-- A number's value. -/
def numL (l : List UInt8) : Option Int :=
  if [48, 120].isPrefixOf l then (if l.length ≤ 2 then none else valL true (l.drop 2) 0)
  else if 1 < l.length ∧ l.head? = some 48 then none
  else if l.length = 0 then none else valL false l 0
theorem dig_range (h : Bool) (c : Int) : -1 ≤ dig h c ∧ dig h c ≤ 15 := by
  unfold dig digitV digitB
  cases h
  · simp only [Bool.false_eq_true, if_false]
    split
    · rename_i hh; simp at hh; omega
    · omega
  · simp only [if_true]
    split
    · rename_i hh; simp at hh; omega
    · split
      · rename_i hh; simp at hh; omega
      · omega
theorem extract_list (s : ByteArray) (a b : Nat) : (s.extract a b).data.toList = (s.data.toList.drop a).take (b - a) := by
  simp
theorem drop_byte {s : ByteArray} {i : Nat} (h : i < s.size) : s.data.toList.drop i = s[i] :: s.data.toList.drop (i + 1) := by
  rw [List.drop_eq_getElem_cons (by rw [size_list]; exact h), byte_get s i h]
theorem isEmpty_of {d : ByteArray} (h : ¬ d.size = 0) : d.toList.isEmpty = false := by
  rw [ByteArray.toList_eq]
  cases hq : d.data.toList with
  | nil => exact absurd (by rw [← size_list, hq]; rfl) h
  | cons _ _ => rfl
theorem empty_iff (s : ByteArray) : s = ⟨#[]⟩ ↔ s.size = 0 := by
  constructor
  · rintro rfl; rfl
  · intro h
    rcases s with ⟨a⟩
    congr 1
    exact Array.eq_empty_of_size_eq_zero h
theorem prefix_any (s p : ByteArray) (w : World) : Calls Tryz.prog 137 #[.string s, .string p] w fun e w' => e = .returned (.bool (Lib.hasPrefix s.data.toList p.data.toList)) ∧ w = w' := (Tryz.strings_HasPrefix s p w).mono fun _ _ h => ⟨h.1, h.2.symm⟩
theorem dig_cases (h : Bool) (c : Int) : (dig h c = c - 48 ∧ digitB c = true ∧ 48 ≤ c ∧ c ≤ 57) ∨ (dig h c = c - 87 ∧ digitB c = false ∧ (if h then hexB c = true else False) ∧ 97 ≤ c ∧ c ≤ 102) ∨ (dig h c = -1 ∧ digitB c = false ∧ (h = true → hexB c = false)) := by
  unfold dig digitV
  cases hd : digitB c with
  | true =>
    have hd2 := hd
    unfold digitB at hd2
    simp at hd2
    cases h <;> simp [hd2]
  | false =>
    cases h with
    | false => simp
    | true =>
      cases hx : (decide (97 ≤ c) && decide (c ≤ 102)) with
      | true =>
        have hx2 := hx
        simp at hx2
        simp [hexB, hd, hx2]
      | false =>
        right
        right
        refine ⟨by simp, rfl, fun _ => ?_⟩
        unfold hexB
        rw [hd, hx]
        rfl
set_option maxRecDepth 100000 in
set_option maxHeartbeats 3200000 in
theorem number_any (s : ByteArray) (w : World) (hs : s.size ≤ 4611686018427387904) :
    Calls Tryz.prog 135 #[.string s] w fun e w' => e = .returned (.tuple #[.int .u32 ((numL s.data.toList).getD 0), .bool (numL s.data.toList).isSome]) ∧ Below w.heap.size w w' := by
  cases hpre : List.isPrefixOf [48, 120] s.data.toList with
  | true =>
    obtain ⟨d, hd⟩ : ∃ d, s.extract 2 s.size = d := ⟨_, rfl⟩
    have h2 : 2 ≤ s.size := by
      have h := List.isPrefixOf_iff_prefix.1 hpre
      have := h.length_le
      rw [size_list] at this
      simpa using this
    have hds : d.size = s.size - 2 := by rw [← hd]; simp
    have hdl : d.data.toList = s.data.toList.drop 2 := by rw [← hd, extract_list, List.take_of_length_le (by simp)]
    have hN : 0 < d.size → numL s.data.toList = valL true d.data.toList 0 := fun h => by unfold numL; rw [hpre, if_pos rfl, if_neg (by rw [size_list]; omega), hdl]
    have hZ : d.size = 0 → numL s.data.toList = none := fun h => by unfold numL; rw [hpre, if_pos rfl, if_pos (by rw [size_list]; omega)]
    obtain ⟨V, hV⟩ : ∃ V, valL true d.data.toList 0 = V := ⟨_, rfl⟩
    rw [hV] at hN
    have HN := Lib.hid hN
    have HZ := Lib.hid hZ
    have HV := Lib.hid hV
    have Hd := Lib.hid hd
    have hdm : d.size ≤ 4611686018427387904 := by omega
    have hpre2 : Lib.hasPrefix s.data.toList [48, 120] = true := hpre
    have i2 : (2 : Int) ≤ (s.size : Int) := by omega
    clear hpre hN hZ hV hd hdl hds
    go_enter Tryz.func135, Tryz.ntmps135
    go_upto_region 3 with (first | (go_at_call 137; refine (prefix_any _ _ _).mono ?_; rw [hpre2]; rintro e w2 ⟨rfl, rfl⟩) | fail)
    go_cut [4, 5] (fun s4 s5 W => s4 = .int .u64 16 ∧ s5 = .string d ∧ w.drew = W)
    case first =>
      go_region
      all_goals
        go_wp2_with fail
        go_meet
        exact ⟨rfl, by rw [← Hd.out], rfl⟩
    case rest =>
    obtain ⟨rfl, rfl, hw⟩ := hcut
    have HBw : Hid (Below w.heap.size w wc) := Lib.hid (by rw [← hw]; exact (Below.refl _ w).drew)
    clear hw
    go_wp2_with fail

    go_loopw [7, 6] (fun x y wr => ∃ (i : Nat) (v : Int), x = .int .i64 i ∧ y = .int .u64 v ∧ i ≤ d.size ∧ 0 ≤ v ∧ v ≤ 4294967295 ∧ valL true (d.data.toList.drop i) v = V ∧ wc = wr) (fun x _ _ => d.size - (intOf x).toNat)
    case atStart => exact ⟨0, 0, rfl, rfl, by omega, by omega, by omega, by have := HV.out; simpa using this, rfl⟩
    case round =>
      obtain ⟨i, v, rfl, rfl, hi, hv0, hv1, hval, rfl⟩ := hrel
      have Hval := Lib.hid hval
      clear hval
      by_cases hlt : i < d.size
      · have i0 : (0 : Int) ≤ (i : Int) := by omega
        have i1 : (i : Int) < (d.size : Int) := by omega
        have hval := Hval.out
        rw [drop_byte hlt] at hval
        unfold valL at hval
        rw [show baseI true = 16 from rfl] at hval
        have hcr := u8_range d[i]
        have Hval2 := Lib.hid hval
        obtain ⟨c0, c9⟩ := hcr
        have hN : numL s.data.toList = V := HN.out (by omega)
        have HN2 := Lib.hid hN
        clear hval hN
        rcases dig_cases true (d[i].toNat : Int) with ⟨h1, h2, h3⟩ | ⟨h1, h2, h3, h4⟩ | ⟨h1, h2⟩
        · have hval := Hval2.out
          rw [if_neg (by omega), h1] at hval
          have e1 : digitB (d[i].toNat : Int) = true := h2
          obtain ⟨d0, d1⟩ := h3
          clear h1 h2
          by_cases hgt : v * 16 + ((d[i].toNat : Int) - 48) > 4294967295
          · rw [if_pos hgt] at hval
            have hv2 : numL s.data.toList = none := by rw [HN2.out, ← hval]
            have Hv2 := Lib.hid hv2
            have hg2 : 4294967295 < v * 16 + ((d[i].toNat : Int) - 48) := hgt
            clear hval hv2
            go_wp2_with (first | (go_at_call 106; refine (digit_any _ _).mono ?_; rw [e1]; rintro e w2 ⟨rfl, rfl⟩) | fail)
            go_ret2
            rw [Hv2.out]
            exact ⟨rfl, HBw.out⟩
          · rw [if_neg hgt] at hval
            have Hval3 := Lib.hid hval
            have hg2 : ¬ 4294967295 < v * 16 + ((d[i].toNat : Int) - 48) := hgt
            clear hval
            go_wp2_with (first | (go_at_call 106; refine (digit_any _ _).mono ?_; rw [e1]; rintro e w2 ⟨rfl, rfl⟩) | fail)
            go_round
            case rel => exact ⟨i + 1, v * 16 + ((d[i].toNat : Int) - 48), by go_num, rfl, by omega, by omega, by omega, Hval3.out, by trivial⟩
            case measure => simp [intOf]; omega
        · have hval := Hval2.out
          rw [if_neg (by omega), h1] at hval
          have e1 : digitB (d[i].toNat : Int) = false := h2
          have e2 : hexB (d[i].toNat : Int) = true := h3
          obtain ⟨d0, d1⟩ := h4
          clear h1 h2 h3
          by_cases hgt : v * 16 + ((d[i].toNat : Int) - 87) > 4294967295
          · rw [if_pos hgt] at hval
            have hv2 : numL s.data.toList = none := by rw [HN2.out, ← hval]
            have Hv2 := Lib.hid hv2
            have hg2 : 4294967295 < v * 16 + ((d[i].toNat : Int) - 97 + 10) := by omega
            clear hval hv2
            go_wp2_with (first | (go_at_call 106; refine (digit_any _ _).mono ?_; rw [e1]; rintro e w2 ⟨rfl, rfl⟩) | (go_at_call 104; refine (hex_any _ _).mono ?_; rw [e2]; rintro e w2 ⟨rfl, rfl⟩) | fail)
            go_ret2
            rw [Hv2.out]
            exact ⟨rfl, HBw.out⟩
          · rw [if_neg hgt] at hval
            have Hval3 := Lib.hid hval
            have hg2 : ¬ 4294967295 < v * 16 + ((d[i].toNat : Int) - 97 + 10) := by omega
            clear hval
            go_wp2_with (first | (go_at_call 106; refine (digit_any _ _).mono ?_; rw [e1]; rintro e w2 ⟨rfl, rfl⟩) | (go_at_call 104; refine (hex_any _ _).mono ?_; rw [e2]; rintro e w2 ⟨rfl, rfl⟩) | fail)
            go_round
            case rel => exact ⟨i + 1, v * 16 + ((d[i].toNat : Int) - 87), by go_num, by congr 1; omega, by omega, by omega, by omega, Hval3.out, by trivial⟩
            case measure => simp [intOf]; omega
        · have hval := Hval2.out
          rw [if_pos (by omega)] at hval
          have hv2 : numL s.data.toList = none := by rw [HN2.out, ← hval]
          have Hv2 := Lib.hid hv2
          clear hval hv2
          obtain ⟨e1, e2⟩ := h2; replace e2 := e2 rfl
          go_wp2_with (first | (go_at_call 106; refine (digit_any _ _).mono ?_; rw [e1]; rintro e w2 ⟨rfl, rfl⟩) | (go_at_call 104; refine (hex_any _ _).mono ?_; rw [e2]; rintro e w2 ⟨rfl, rfl⟩) | fail)
          go_ret2
          rw [Hv2.out]
          exact ⟨rfl, HBw.out⟩
      · have hval := Hval.out
        rw [List.drop_of_length_le (by rw [size_list]; omega)] at hval
        have hval : some v = V := hval
        have Hval2 := Lib.hid hval
        have i1 : ¬ (i : Int) < (d.size : Int) := by omega
        clear hval
        by_cases hd0 : d.size = 0
        · have hde := (empty_iff d).2 hd0
          subst hde
          have hz : v = 0 := by
            have h1 := HV.out
            have h2 := Hval2.out
            have h3 : some (0 : Int) = V := h1
            rw [← h3] at h2
            exact Option.some.inj h2
          subst hz
          go_wp2_with fail
          go_ret2
          rw [HZ.out rfl]
          exact ⟨rfl, HBw.out⟩
        · have hde : d.toList.isEmpty = false := isEmpty_of hd0
          have hv2 : numL s.data.toList = some v := by rw [HN.out (by omega), Hval2.out]
          have Hv2 := Lib.hid hv2
          clear hv2
          go_wp2_with fail
          go_ret2
          rw [Hv2.out]
          refine ⟨?_, HBw.out⟩
          simp
  | false =>
    have hpre2 : Lib.hasPrefix s.data.toList [48, 120] = false := hpre
    by_cases h1 : 1 < s.size
    · have i2 : (1 : Int) < (s.size : Int) := by omega
      have hhd : s.data.toList.head? = some (s[0]'(by omega)) := by
        rw [List.head?_eq_getElem?, List.getElem?_eq_getElem (by rw [size_list]; omega), byte_get s 0 (by omega)]
      cases hz : (((s[0]'(by omega)).toNat : Int) == 48) with
      | true =>
        have hh : s.data.toList.head? = some 48 := by
          have h48 : s[0]'(by omega) = 48 := by
            apply UInt8.toNat_inj.1
            simp at hz
            show _ = 48
            omega
          rw [hhd, h48]
        have hN : numL s.data.toList = none := by
          unfold numL
          rw [hpre, if_neg (by simp), if_pos ⟨by rw [size_list]; exact h1, hh⟩]
        have HN := Lib.hid hN
        clear hN hhd hpre hh
        go_enter Tryz.func135, Tryz.ntmps135
        go_wp2_with (first | (go_at_call 137; refine (prefix_any _ _ _).mono ?_; rw [hpre2]; rintro e w2 ⟨rfl, rfl⟩) | fail)
        go_ret2
        rw [HN.out]
        exact ⟨rfl, Below.refl _ _⟩
      | false =>
        have hN1 : numL s.data.toList = valL false s.data.toList 0 := by
          unfold numL
          rw [hpre, if_neg (by simp), if_neg, if_neg (by rw [size_list]; omega)]
          rintro ⟨_, h⟩
          rw [hhd] at h
          have h := Option.some.inj h
          rw [h] at hz
          simp at hz
        have HBw := Lib.hid (Below.refl w.heap.size w)
        have hN : 0 < s.size → numL s.data.toList = valL false s.data.toList 0 := fun _ => hN1
        have hZ : s.size = 0 → numL s.data.toList = none := fun h => by
          unfold numL
          rw [hpre, if_neg (by simp), if_neg (by rw [size_list]; omega), if_pos (by rw [size_list]; exact h)]
        obtain ⟨V, hV⟩ : ∃ V, valL false s.data.toList 0 = V := ⟨_, rfl⟩
        rw [hV] at hN
        have HN := Lib.hid hN
        have HZ := Lib.hid hZ
        have HV := Lib.hid hV
        clear hN hZ hV hN1 hpre hhd
        go_enter Tryz.func135, Tryz.ntmps135
        go_wp2_with (first | (go_at_call 137; refine (prefix_any _ _ _).mono ?_; rw [hpre2]; rintro e w2 ⟨rfl, rfl⟩) | fail)

        go_loopw [7, 6] (fun x y wr => ∃ (i : Nat) (v : Int), x = .int .i64 i ∧ y = .int .u64 v ∧ i ≤ s.size ∧ 0 ≤ v ∧ v ≤ 4294967295 ∧ valL false (s.data.toList.drop i) v = V ∧ w = wr) (fun x _ _ => s.size - (intOf x).toNat)
        case atStart => exact ⟨0, 0, rfl, rfl, by omega, by omega, by omega, by have := HV.out; simpa using this, rfl⟩
        case round =>
          obtain ⟨i, v, rfl, rfl, hi, hv0, hv1, hval, rfl⟩ := hrel
          have Hval := Lib.hid hval
          clear hval
          by_cases hlt : i < s.size
          · have i0 : (0 : Int) ≤ (i : Int) := by omega
            have i1 : (i : Int) < (s.size : Int) := by omega
            have hval := Hval.out
            rw [drop_byte hlt] at hval
            unfold valL at hval
            rw [show baseI false = 10 from rfl] at hval
            have hcr := u8_range s[i]
            have Hval2 := Lib.hid hval
            obtain ⟨c0, c9⟩ := hcr
            have hN : numL s.data.toList = V := HN.out (by omega)
            have HN2 := Lib.hid hN
            clear hval hN
            rcases dig_cases false (s[i].toNat : Int) with ⟨h1, h2, h3⟩ | ⟨h1, h2, h3, h4⟩ | ⟨h1, h2⟩
            · have hval := Hval2.out
              rw [if_neg (by omega), h1] at hval
              have e1 : digitB (s[i].toNat : Int) = true := h2
              obtain ⟨d0, d1⟩ := h3
              clear h1 h2
              by_cases hgt : v * 10 + ((s[i].toNat : Int) - 48) > 4294967295
              · rw [if_pos hgt] at hval
                have hv2 : numL s.data.toList = none := by rw [HN2.out, ← hval]
                have Hv2 := Lib.hid hv2
                have hg2 : 4294967295 < v * 10 + ((s[i].toNat : Int) - 48) := hgt
                clear hval hv2
                go_wp2_with (first | (go_at_call 106; refine (digit_any _ _).mono ?_; rw [e1]; rintro e w2 ⟨rfl, rfl⟩) | fail)
                go_ret2
                rw [Hv2.out]
                exact ⟨rfl, HBw.out⟩
              · rw [if_neg hgt] at hval
                have Hval3 := Lib.hid hval
                have hg2 : ¬ 4294967295 < v * 10 + ((s[i].toNat : Int) - 48) := hgt
                clear hval
                go_wp2_with (first | (go_at_call 106; refine (digit_any _ _).mono ?_; rw [e1]; rintro e w2 ⟨rfl, rfl⟩) | fail)
                go_round
                case rel => exact ⟨i + 1, v * 10 + ((s[i].toNat : Int) - 48), by go_num, rfl, by omega, by omega, by omega, Hval3.out, by trivial⟩
                case measure => simp [intOf]; omega
            · cases h3
            · have hval := Hval2.out
              rw [if_pos (by omega)] at hval
              have hv2 : numL s.data.toList = none := by rw [HN2.out, ← hval]
              have Hv2 := Lib.hid hv2
              clear hval hv2
              have e1 := h2.1
              go_wp2_with (first | (go_at_call 106; refine (digit_any _ _).mono ?_; rw [e1]; rintro e w2 ⟨rfl, rfl⟩) | fail)
              go_ret2
              rw [Hv2.out]
              exact ⟨rfl, HBw.out⟩
          · have hval := Hval.out
            rw [List.drop_of_length_le (by rw [size_list]; omega)] at hval
            have hval : some v = V := hval
            have Hval2 := Lib.hid hval
            have i1 : ¬ (i : Int) < (s.size : Int) := by omega
            clear hval
            by_cases hd0 : s.size = 0
            · exact absurd hd0 (by omega)
            · have hde : s.toList.isEmpty = false := isEmpty_of hd0
              have hv2 : numL s.data.toList = some v := by rw [HN.out (by omega), Hval2.out]
              have Hv2 := Lib.hid hv2
              clear hv2
              go_wp2_with fail
              go_ret2
              rw [Hv2.out]
              refine ⟨?_, HBw.out⟩
              simp
    · have hN1 : 0 < s.size → numL s.data.toList = valL false s.data.toList 0 := fun h => by
        unfold numL
        rw [hpre, if_neg (by simp), if_neg (by rw [size_list]; omega), if_neg (by rw [size_list]; omega)]
      have i2 : ¬ (1 : Int) < (s.size : Int) := by omega
      have HBw := Lib.hid (Below.refl w.heap.size w)
      have hN : 0 < s.size → numL s.data.toList = valL false s.data.toList 0 := hN1
      have hZ : s.size = 0 → numL s.data.toList = none := fun h => by
        unfold numL
        rw [hpre, if_neg (by simp), if_neg (by rw [size_list]; omega), if_pos (by rw [size_list]; exact h)]
      obtain ⟨V, hV⟩ : ∃ V, valL false s.data.toList 0 = V := ⟨_, rfl⟩
      rw [hV] at hN
      have HN := Lib.hid hN
      have HZ := Lib.hid hZ
      have HV := Lib.hid hV
      clear hN hZ hV hN1 hpre
      go_enter Tryz.func135, Tryz.ntmps135
      go_wp2_with (first | (go_at_call 137; refine (prefix_any _ _ _).mono ?_; rw [hpre2]; rintro e w2 ⟨rfl, rfl⟩) | fail)

      go_loopw [7, 6] (fun x y wr => ∃ (i : Nat) (v : Int), x = .int .i64 i ∧ y = .int .u64 v ∧ i ≤ s.size ∧ 0 ≤ v ∧ v ≤ 4294967295 ∧ valL false (s.data.toList.drop i) v = V ∧ w = wr) (fun x _ _ => s.size - (intOf x).toNat)
      case atStart => exact ⟨0, 0, rfl, rfl, by omega, by omega, by omega, by have := HV.out; simpa using this, rfl⟩
      case round =>
        obtain ⟨i, v, rfl, rfl, hi, hv0, hv1, hval, rfl⟩ := hrel
        have Hval := Lib.hid hval
        clear hval
        by_cases hlt : i < s.size
        · have i0 : (0 : Int) ≤ (i : Int) := by omega
          have i1 : (i : Int) < (s.size : Int) := by omega
          have hval := Hval.out
          rw [drop_byte hlt] at hval
          unfold valL at hval
          rw [show baseI false = 10 from rfl] at hval
          have hcr := u8_range s[i]
          have Hval2 := Lib.hid hval
          obtain ⟨c0, c9⟩ := hcr
          have hN : numL s.data.toList = V := HN.out (by omega)
          have HN2 := Lib.hid hN
          clear hval hN
          rcases dig_cases false (s[i].toNat : Int) with ⟨h1, h2, h3⟩ | ⟨h1, h2, h3, h4⟩ | ⟨h1, h2⟩
          · have hval := Hval2.out
            rw [if_neg (by omega), h1] at hval
            have e1 : digitB (s[i].toNat : Int) = true := h2
            obtain ⟨d0, d1⟩ := h3
            clear h1 h2
            by_cases hgt : v * 10 + ((s[i].toNat : Int) - 48) > 4294967295
            · rw [if_pos hgt] at hval
              have hv2 : numL s.data.toList = none := by rw [HN2.out, ← hval]
              have Hv2 := Lib.hid hv2
              have hg2 : 4294967295 < v * 10 + ((s[i].toNat : Int) - 48) := hgt
              clear hval hv2
              go_wp2_with (first | (go_at_call 106; refine (digit_any _ _).mono ?_; rw [e1]; rintro e w2 ⟨rfl, rfl⟩) | fail)
              go_ret2
              rw [Hv2.out]
              exact ⟨rfl, HBw.out⟩
            · rw [if_neg hgt] at hval
              have Hval3 := Lib.hid hval
              have hg2 : ¬ 4294967295 < v * 10 + ((s[i].toNat : Int) - 48) := hgt
              clear hval
              go_wp2_with (first | (go_at_call 106; refine (digit_any _ _).mono ?_; rw [e1]; rintro e w2 ⟨rfl, rfl⟩) | fail)
              go_round
              case rel => exact ⟨i + 1, v * 10 + ((s[i].toNat : Int) - 48), by go_num, rfl, by omega, by omega, by omega, Hval3.out, by trivial⟩
              case measure => simp [intOf]; omega
          · cases h3
          · have hval := Hval2.out
            rw [if_pos (by omega)] at hval
            have hv2 : numL s.data.toList = none := by rw [HN2.out, ← hval]
            have Hv2 := Lib.hid hv2
            clear hval hv2
            have e1 := h2.1
            go_wp2_with (first | (go_at_call 106; refine (digit_any _ _).mono ?_; rw [e1]; rintro e w2 ⟨rfl, rfl⟩) | fail)
            go_ret2
            rw [Hv2.out]
            exact ⟨rfl, HBw.out⟩
        · have hval := Hval.out
          rw [List.drop_of_length_le (by rw [size_list]; omega)] at hval
          have hval : some v = V := hval
          have Hval2 := Lib.hid hval
          have i1 : ¬ (i : Int) < (s.size : Int) := by omega
          clear hval
          by_cases hd0 : s.size = 0
          · have hde := (empty_iff s).2 hd0
            subst hde
            have hz : v = 0 := by
              have h1 := HV.out
              have h2 := Hval2.out
              have h3 : some (0 : Int) = V := h1
              rw [← h3] at h2
              exact Option.some.inj h2
            subst hz
            go_wp2_with fail
            go_ret2
            rw [HZ.out rfl]
            exact ⟨rfl, HBw.out⟩
          · have hde : s.toList.isEmpty = false := isEmpty_of hd0
            have hv2 : numL s.data.toList = some v := by rw [HN.out (by omega), Hval2.out]
            have Hv2 := Lib.hid hv2
            clear hv2
            go_wp2_with fail
            go_ret2
            rw [Hv2.out]
            refine ⟨?_, HBw.out⟩
            simp
end Go.Proofs.YtffkaphbgfdpaaaGreatDoor.L
end

section
/- The document's numbers. -/
namespace Go.Proofs.YtffkaphbgfdpaaaGreatDoor.L
open Go.RowKit Go.Shelf
set_option linter.unusedVariables false
set_option maxRecDepth 100000
set_option linter.unusedSimpArgs false

def num10 (l : List UInt8) : Option Int := if l.length = 0 then none else if 1 < l.length ∧ l.head? = some 48 then none else valL false l 0
theorem head_byte {s : ByteArray} (h : 0 < s.size) : s.data.toList.head? = some (s[0]'h) := by
  rw [List.head?_eq_getElem?, List.getElem?_eq_getElem (by rw [size_list]; omega), byte_get s 0 h]
theorem byte_eq {b c : UInt8} : ((b.toNat : Int) == (c.toNat : Int)) = decide (b = c) := by
  cases h : decide (b = c) with
  | true => have := of_decide_eq_true h; rw [this]; simp
  | false =>
    have := of_decide_eq_false h
    simp only [beq_eq_false_iff_ne, ne_eq]
    intro e
    exact this (UInt8.toNat_inj.1 (by omega))
theorem pre_iff (s : ByteArray) : List.isPrefixOf [48, 120] s.data.toList = true ↔ ∃ h : 1 < s.size, s[0]'(by omega) = 48 ∧ s[1]'h = 120 := by
  rw [List.isPrefixOf_iff_prefix]
  constructor
  · rintro ⟨t, ht⟩
    have hl : 1 < s.size := by rw [← size_list, ← ht]; simp
    refine ⟨hl, ?_, ?_⟩
    · rw [← byte_get s 0 (by omega)]
      simp [← ht]
    · rw [← byte_get s 1 hl]
      simp [← ht]
  · rintro ⟨h, h0, h1⟩
    refine ⟨s.data.toList.drop 2, ?_⟩
    have e0 := drop_byte (s := s) (i := 0) (by omega)
    have e1 := drop_byte (s := s) (i := 1) h
    rw [List.drop_zero] at e0
    rw [e0]
    simp only [Nat.zero_add]
    rw [e1, h0, h1]
    rfl
theorem num_ten {s : ByteArray} (h : ¬ (2 < s.size ∧ List.isPrefixOf [48, 120] s.data.toList = true)) : numL s.data.toList = num10 s.data.toList := by
  unfold numL num10
  cases hp : List.isPrefixOf [48, 120] s.data.toList with
  | true =>
    obtain ⟨h1, h2, h3⟩ := (pre_iff s).1 hp
    have : ¬ 2 < s.size := fun q => h ⟨q, hp⟩
    rw [if_pos rfl, if_pos (by rw [size_list]; omega), if_neg (by rw [size_list]; omega), if_pos ⟨by rw [size_list]; omega, by rw [head_byte (by omega), h2]⟩]
  | false =>
    rw [if_neg (by simp)]
    by_cases h0 : s.data.toList.length = 0
    · rw [if_neg (by omega), if_pos h0]
      simp [h0]
    · rw [if_neg h0]
      split
      · rfl
      · rfl
theorem num_max : ∀ (l : List UInt8) (h : Bool) (v : Int), 0 ≤ v → v ≤ 4294967295 → ∀ r, valL h l v = some r → 0 ≤ r ∧ r ≤ 4294967295
  | [], h, v, h0, h1, r, hr => by
    have : v = r := Option.some.inj hr
    omega
  | b :: l, h, v, h0, h1, r, hr => by
    unfold valL at hr
    split at hr
    · cases hr
    · split at hr
      · cases hr
      · rename_i q1 q2
        refine num_max l h _ ?_ (by omega) r hr
        unfold baseI
        split <;> omega
theorem numL_max {l : List UInt8} {r : Int} (h : numL l = some r) : 0 ≤ r ∧ r ≤ 4294967295 := by
  unfold numL at h
  split at h
  · split at h
    · cases h
    · exact num_max _ _ _ (by omega) (by omega) _ h
  · split at h
    · cases h
    · split at h
      · cases h
      · exact num_max _ _ _ (by omega) (by omega) _ h
theorem getD_max (l : List UInt8) : 0 ≤ (numL l).getD 0 ∧ (numL l).getD 0 ≤ 4294967295 := by
  cases h : numL l with
  | none => exact ⟨by decide, by decide⟩
  | some r => exact numL_max h
end Go.Proofs.YtffkaphbgfdpaaaGreatDoor.L
end

section
/- The document's signs. -/
namespace Go.Proofs.YtffkaphbgfdpaaaGreatDoor.L
open Go.RowKit Go.Shelf
set_option linter.unusedVariables false
set_option maxRecDepth 100000
set_option linter.unusedSimpArgs false

def twos : List (List UInt8) := [[60, 60], [62, 62], [60, 61], [62, 61], [61, 61], [33, 61], [38, 38], [124, 124]]
def ones : List UInt8 := [40, 41, 91, 93, 58, 43, 45, 42, 47, 37, 38, 124, 94, 60, 62, 61, 33]
def onesI : List Int := [40, 41, 91, 93, 58, 43, 45, 42, 47, 37, 38, 124, 94, 60, 62, 61, 33]
/-- How long the longest sign ahead is. -/
def signN (l : List UInt8) : Nat := if twos.contains (l.take 2) then 2 else match l with
  | b :: _ => if ones.contains b then 1 else 0
  | [] => 0
theorem contains_int : ∀ (l : List UInt8) (b : UInt8), l.contains b = (l.map fun x => (x.toNat : Int)).contains (b.toNat : Int)
  | [], b => rfl
  | x :: l, b => by
    rw [List.map_cons, List.contains_cons, List.contains_cons, contains_int l b]
    congr 1
    rw [byte_eq]
    exact (decide_eq_decide.2 Iff.rfl).trans rfl
theorem ones_int (b : UInt8) : ones.contains b = onesI.contains (b.toNat : Int) := contains_int ones b
theorem two_len {q : List UInt8} (h : twos.contains q = true) : q.length = 2 := by
  have : ∀ x ∈ twos, x.length = 2 := by decide
  exact this q (by simpa using h)
theorem signN_le (l : List UInt8) : signN l ≤ 2 ∧ signN l ≤ l.length := by
  unfold signN
  split
  · rename_i h
    have := two_len h
    rw [List.length_take] at this
    omega
  · split
    · split <;> simp
    · simp
theorem eight_ways (q : List UInt8) : ((q == [60, 60]) = true) ∨ ((q == [60, 60]) = false ∧ (q == [62, 62]) = true) ∨ ((q == [60, 60]) = false ∧ (q == [62, 62]) = false ∧ (q == [60, 61]) = true) ∨ ((q == [60, 60]) = false ∧ (q == [62, 62]) = false ∧ (q == [60, 61]) = false ∧ (q == [62, 61]) = true) ∨ ((q == [60, 60]) = false ∧ (q == [62, 62]) = false ∧ (q == [60, 61]) = false ∧ (q == [62, 61]) = false ∧ (q == [61, 61]) = true) ∨ ((q == [60, 60]) = false ∧ (q == [62, 62]) = false ∧ (q == [60, 61]) = false ∧ (q == [62, 61]) = false ∧ (q == [61, 61]) = false ∧ (q == [33, 61]) = true) ∨ ((q == [60, 60]) = false ∧ (q == [62, 62]) = false ∧ (q == [60, 61]) = false ∧ (q == [62, 61]) = false ∧ (q == [61, 61]) = false ∧ (q == [33, 61]) = false ∧ (q == [38, 38]) = true) ∨ ((q == [60, 60]) = false ∧ (q == [62, 62]) = false ∧ (q == [60, 61]) = false ∧ (q == [62, 61]) = false ∧ (q == [61, 61]) = false ∧ (q == [33, 61]) = false ∧ (q == [38, 38]) = false ∧ (q == [124, 124]) = true) ∨ ((q == [60, 60]) = false ∧ (q == [62, 62]) = false ∧ (q == [60, 61]) = false ∧ (q == [62, 61]) = false ∧ (q == [61, 61]) = false ∧ (q == [33, 61]) = false ∧ (q == [38, 38]) = false ∧ (q == [124, 124]) = false) := by
  cases h0 : (q == [60, 60])
  case' true => exact Or.inl (rfl)
  cases h1 : (q == [62, 62])
  case' true => exact Or.inr (Or.inl (⟨rfl, rfl⟩))
  cases h2 : (q == [60, 61])
  case' true => exact Or.inr (Or.inr (Or.inl (⟨rfl, rfl, rfl⟩)))
  cases h3 : (q == [62, 61])
  case' true => exact Or.inr (Or.inr (Or.inr (Or.inl (⟨rfl, rfl, rfl, rfl⟩))))
  cases h4 : (q == [61, 61])
  case' true => exact Or.inr (Or.inr (Or.inr (Or.inr (Or.inl (⟨rfl, rfl, rfl, rfl, rfl⟩)))))
  cases h5 : (q == [33, 61])
  case' true => exact Or.inr (Or.inr (Or.inr (Or.inr (Or.inr (Or.inl (⟨rfl, rfl, rfl, rfl, rfl, rfl⟩))))))
  cases h6 : (q == [38, 38])
  case' true => exact Or.inr (Or.inr (Or.inr (Or.inr (Or.inr (Or.inr (Or.inl (⟨rfl, rfl, rfl, rfl, rfl, rfl, rfl⟩)))))))
  cases h7 : (q == [124, 124])
  case' true => exact Or.inr (Or.inr (Or.inr (Or.inr (Or.inr (Or.inr (Or.inr (Or.inl (⟨rfl, rfl, rfl, rfl, rfl, rfl, rfl, rfl⟩))))))))
  exact Or.inr (Or.inr (Or.inr (Or.inr (Or.inr (Or.inr (Or.inr (Or.inr ⟨rfl, rfl, rfl, rfl, rfl, rfl, rfl, rfl⟩)))))))
theorem ones_ways (c : Int) : ((c == 40) = true) ∨ ((c == 40) = false ∧ (c == 41) = true) ∨ ((c == 40) = false ∧ (c == 41) = false ∧ (c == 91) = true) ∨ ((c == 40) = false ∧ (c == 41) = false ∧ (c == 91) = false ∧ (c == 93) = true) ∨ ((c == 40) = false ∧ (c == 41) = false ∧ (c == 91) = false ∧ (c == 93) = false ∧ (c == 58) = true) ∨ ((c == 40) = false ∧ (c == 41) = false ∧ (c == 91) = false ∧ (c == 93) = false ∧ (c == 58) = false ∧ (c == 43) = true) ∨ ((c == 40) = false ∧ (c == 41) = false ∧ (c == 91) = false ∧ (c == 93) = false ∧ (c == 58) = false ∧ (c == 43) = false ∧ (c == 45) = true) ∨ ((c == 40) = false ∧ (c == 41) = false ∧ (c == 91) = false ∧ (c == 93) = false ∧ (c == 58) = false ∧ (c == 43) = false ∧ (c == 45) = false ∧ (c == 42) = true) ∨ ((c == 40) = false ∧ (c == 41) = false ∧ (c == 91) = false ∧ (c == 93) = false ∧ (c == 58) = false ∧ (c == 43) = false ∧ (c == 45) = false ∧ (c == 42) = false ∧ (c == 47) = true) ∨ ((c == 40) = false ∧ (c == 41) = false ∧ (c == 91) = false ∧ (c == 93) = false ∧ (c == 58) = false ∧ (c == 43) = false ∧ (c == 45) = false ∧ (c == 42) = false ∧ (c == 47) = false ∧ (c == 37) = true) ∨ ((c == 40) = false ∧ (c == 41) = false ∧ (c == 91) = false ∧ (c == 93) = false ∧ (c == 58) = false ∧ (c == 43) = false ∧ (c == 45) = false ∧ (c == 42) = false ∧ (c == 47) = false ∧ (c == 37) = false ∧ (c == 38) = true) ∨ ((c == 40) = false ∧ (c == 41) = false ∧ (c == 91) = false ∧ (c == 93) = false ∧ (c == 58) = false ∧ (c == 43) = false ∧ (c == 45) = false ∧ (c == 42) = false ∧ (c == 47) = false ∧ (c == 37) = false ∧ (c == 38) = false ∧ (c == 124) = true) ∨ ((c == 40) = false ∧ (c == 41) = false ∧ (c == 91) = false ∧ (c == 93) = false ∧ (c == 58) = false ∧ (c == 43) = false ∧ (c == 45) = false ∧ (c == 42) = false ∧ (c == 47) = false ∧ (c == 37) = false ∧ (c == 38) = false ∧ (c == 124) = false ∧ (c == 94) = true) ∨ ((c == 40) = false ∧ (c == 41) = false ∧ (c == 91) = false ∧ (c == 93) = false ∧ (c == 58) = false ∧ (c == 43) = false ∧ (c == 45) = false ∧ (c == 42) = false ∧ (c == 47) = false ∧ (c == 37) = false ∧ (c == 38) = false ∧ (c == 124) = false ∧ (c == 94) = false ∧ (c == 60) = true) ∨ ((c == 40) = false ∧ (c == 41) = false ∧ (c == 91) = false ∧ (c == 93) = false ∧ (c == 58) = false ∧ (c == 43) = false ∧ (c == 45) = false ∧ (c == 42) = false ∧ (c == 47) = false ∧ (c == 37) = false ∧ (c == 38) = false ∧ (c == 124) = false ∧ (c == 94) = false ∧ (c == 60) = false ∧ (c == 62) = true) ∨ ((c == 40) = false ∧ (c == 41) = false ∧ (c == 91) = false ∧ (c == 93) = false ∧ (c == 58) = false ∧ (c == 43) = false ∧ (c == 45) = false ∧ (c == 42) = false ∧ (c == 47) = false ∧ (c == 37) = false ∧ (c == 38) = false ∧ (c == 124) = false ∧ (c == 94) = false ∧ (c == 60) = false ∧ (c == 62) = false ∧ (c == 61) = true) ∨ ((c == 40) = false ∧ (c == 41) = false ∧ (c == 91) = false ∧ (c == 93) = false ∧ (c == 58) = false ∧ (c == 43) = false ∧ (c == 45) = false ∧ (c == 42) = false ∧ (c == 47) = false ∧ (c == 37) = false ∧ (c == 38) = false ∧ (c == 124) = false ∧ (c == 94) = false ∧ (c == 60) = false ∧ (c == 62) = false ∧ (c == 61) = false ∧ (c == 33) = true) ∨ ((c == 40) = false ∧ (c == 41) = false ∧ (c == 91) = false ∧ (c == 93) = false ∧ (c == 58) = false ∧ (c == 43) = false ∧ (c == 45) = false ∧ (c == 42) = false ∧ (c == 47) = false ∧ (c == 37) = false ∧ (c == 38) = false ∧ (c == 124) = false ∧ (c == 94) = false ∧ (c == 60) = false ∧ (c == 62) = false ∧ (c == 61) = false ∧ (c == 33) = false) := by
  cases h0 : (c == 40)
  case' true => exact Or.inl (rfl)
  cases h1 : (c == 41)
  case' true => exact Or.inr (Or.inl (⟨rfl, rfl⟩))
  cases h2 : (c == 91)
  case' true => exact Or.inr (Or.inr (Or.inl (⟨rfl, rfl, rfl⟩)))
  cases h3 : (c == 93)
  case' true => exact Or.inr (Or.inr (Or.inr (Or.inl (⟨rfl, rfl, rfl, rfl⟩))))
  cases h4 : (c == 58)
  case' true => exact Or.inr (Or.inr (Or.inr (Or.inr (Or.inl (⟨rfl, rfl, rfl, rfl, rfl⟩)))))
  cases h5 : (c == 43)
  case' true => exact Or.inr (Or.inr (Or.inr (Or.inr (Or.inr (Or.inl (⟨rfl, rfl, rfl, rfl, rfl, rfl⟩))))))
  cases h6 : (c == 45)
  case' true => exact Or.inr (Or.inr (Or.inr (Or.inr (Or.inr (Or.inr (Or.inl (⟨rfl, rfl, rfl, rfl, rfl, rfl, rfl⟩)))))))
  cases h7 : (c == 42)
  case' true => exact Or.inr (Or.inr (Or.inr (Or.inr (Or.inr (Or.inr (Or.inr (Or.inl (⟨rfl, rfl, rfl, rfl, rfl, rfl, rfl, rfl⟩))))))))
  cases h8 : (c == 47)
  case' true => exact Or.inr (Or.inr (Or.inr (Or.inr (Or.inr (Or.inr (Or.inr (Or.inr (Or.inl (⟨rfl, rfl, rfl, rfl, rfl, rfl, rfl, rfl, rfl⟩)))))))))
  cases h9 : (c == 37)
  case' true => exact Or.inr (Or.inr (Or.inr (Or.inr (Or.inr (Or.inr (Or.inr (Or.inr (Or.inr (Or.inl (⟨rfl, rfl, rfl, rfl, rfl, rfl, rfl, rfl, rfl, rfl⟩))))))))))
  cases h10 : (c == 38)
  case' true => exact Or.inr (Or.inr (Or.inr (Or.inr (Or.inr (Or.inr (Or.inr (Or.inr (Or.inr (Or.inr (Or.inl (⟨rfl, rfl, rfl, rfl, rfl, rfl, rfl, rfl, rfl, rfl, rfl⟩)))))))))))
  cases h11 : (c == 124)
  case' true => exact Or.inr (Or.inr (Or.inr (Or.inr (Or.inr (Or.inr (Or.inr (Or.inr (Or.inr (Or.inr (Or.inr (Or.inl (⟨rfl, rfl, rfl, rfl, rfl, rfl, rfl, rfl, rfl, rfl, rfl, rfl⟩))))))))))))
  cases h12 : (c == 94)
  case' true => exact Or.inr (Or.inr (Or.inr (Or.inr (Or.inr (Or.inr (Or.inr (Or.inr (Or.inr (Or.inr (Or.inr (Or.inr (Or.inl (⟨rfl, rfl, rfl, rfl, rfl, rfl, rfl, rfl, rfl, rfl, rfl, rfl, rfl⟩)))))))))))))
  cases h13 : (c == 60)
  case' true => exact Or.inr (Or.inr (Or.inr (Or.inr (Or.inr (Or.inr (Or.inr (Or.inr (Or.inr (Or.inr (Or.inr (Or.inr (Or.inr (Or.inl (⟨rfl, rfl, rfl, rfl, rfl, rfl, rfl, rfl, rfl, rfl, rfl, rfl, rfl, rfl⟩))))))))))))))
  cases h14 : (c == 62)
  case' true => exact Or.inr (Or.inr (Or.inr (Or.inr (Or.inr (Or.inr (Or.inr (Or.inr (Or.inr (Or.inr (Or.inr (Or.inr (Or.inr (Or.inr (Or.inl (⟨rfl, rfl, rfl, rfl, rfl, rfl, rfl, rfl, rfl, rfl, rfl, rfl, rfl, rfl, rfl⟩)))))))))))))))
  cases h15 : (c == 61)
  case' true => exact Or.inr (Or.inr (Or.inr (Or.inr (Or.inr (Or.inr (Or.inr (Or.inr (Or.inr (Or.inr (Or.inr (Or.inr (Or.inr (Or.inr (Or.inr (Or.inl (⟨rfl, rfl, rfl, rfl, rfl, rfl, rfl, rfl, rfl, rfl, rfl, rfl, rfl, rfl, rfl, rfl⟩))))))))))))))))
  cases h16 : (c == 33)
  case' true => exact Or.inr (Or.inr (Or.inr (Or.inr (Or.inr (Or.inr (Or.inr (Or.inr (Or.inr (Or.inr (Or.inr (Or.inr (Or.inr (Or.inr (Or.inr (Or.inr (Or.inl (⟨rfl, rfl, rfl, rfl, rfl, rfl, rfl, rfl, rfl, rfl, rfl, rfl, rfl, rfl, rfl, rfl, rfl⟩)))))))))))))))))
  exact Or.inr (Or.inr (Or.inr (Or.inr (Or.inr (Or.inr (Or.inr (Or.inr (Or.inr (Or.inr (Or.inr (Or.inr (Or.inr (Or.inr (Or.inr (Or.inr (Or.inr ⟨rfl, rfl, rfl, rfl, rfl, rfl, rfl, rfl, rfl, rfl, rfl, rfl, rfl, rfl, rfl, rfl, rfl⟩))))))))))))))))
theorem sign_two {l q k : List UInt8} {n : Nat} (hq : q = l.take 2) (hn : signN l = n) (hk : twos.contains k = true) (h : (q == k) = true) : n = 2 := by
  have h := eq_of_beq h
  subst h
  rw [hq] at hk
  unfold signN at hn
  rw [if_pos hk] at hn
  exact hn.symm
theorem sign_rest {l r : List UInt8} {b : UInt8} {n : Nat} (hd : l = b :: r) (hn : signN l = n) (h : twos.contains (l.take 2) = false) : n = if onesI.contains (b.toNat : Int) then 1 else 0 := by
  unfold signN at hn
  rw [if_neg (by rw [h]; simp)] at hn
  subst hd
  rw [← ones_int, ← hn]
theorem sign_one {l r : List UInt8} {b : UInt8} {n : Nat} {k : Int} (hd : l = b :: r) (hn : signN l = n) (h : twos.contains (l.take 2) = false) (hk : onesI.contains k = true) (e : ((b.toNat : Int) == k) = true) : n = 1 := by
  have e := eq_of_beq e
  rw [sign_rest hd hn h, e, if_pos hk]
theorem twos_none {q : List UInt8} (h : (q == [60, 60]) = false ∧ (q == [62, 62]) = false ∧ (q == [60, 61]) = false ∧ (q == [62, 61]) = false ∧ (q == [61, 61]) = false ∧ (q == [33, 61]) = false ∧ (q == [38, 38]) = false ∧ (q == [124, 124]) = false) : twos.contains q = false := by
  obtain ⟨h0, h1, h2, h3, h4, h5, h6, h7⟩ := h
  simp only [twos, List.contains_cons, h0, h1, h2, h3, h4, h5, h6, h7]
  rfl
theorem ones_none {c : Int} (h : (c == 40) = false ∧ (c == 41) = false ∧ (c == 91) = false ∧ (c == 93) = false ∧ (c == 58) = false ∧ (c == 43) = false ∧ (c == 45) = false ∧ (c == 42) = false ∧ (c == 47) = false ∧ (c == 37) = false ∧ (c == 38) = false ∧ (c == 124) = false ∧ (c == 94) = false ∧ (c == 60) = false ∧ (c == 62) = false ∧ (c == 61) = false ∧ (c == 33) = false) : onesI.contains c = false := by
  obtain ⟨h0, h1, h2, h3, h4, h5, h6, h7, h8, h9, h10, h11, h12, h13, h14, h15, h16⟩ := h
  simp only [onesI, List.contains_cons, h0, h1, h2, h3, h4, h5, h6, h7, h8, h9, h10, h11, h12, h13, h14, h15, h16]
  rfl
theorem twos_short {l : List UInt8} (h : l.length < 2) : twos.contains (l.take 2) = false := by
  cases e : twos.contains (l.take 2) with
  | false => rfl
  | true =>
    have := two_len e
    rw [List.length_take] at this
    omega
theorem extract_nil (s : ByteArray) (a : Nat) : s.extract a a = ⟨#[]⟩ := by
  rw [empty_iff]
  simp
end Go.Proofs.YtffkaphbgfdpaaaGreatDoor.L
end

section
/- The compiler's signs: the longest one ahead. -/
namespace Go.Proofs.YtffkaphbgfdpaaaGreatDoor.L
open Go.RowKit Go.Shelf
set_option linter.unusedVariables false
set_option maxRecDepth 100000
set_option linter.unusedSimpArgs false

def signStr (k : Nat) : ByteArray := if k = 0 then ⟨#[60, 60, 32, 62, 62, 32, 60, 61, 32, 62, 61, 32, 61, 61, 32, 33, 61, 32, 38, 38, 32, 124, 124]⟩ else ⟨#[40, 32, 41, 32, 91, 32, 93, 32, 58, 32, 43, 32, 45, 32, 42, 32, 47, 32, 37, 32, 38, 32, 124, 32, 94, 32, 60, 32, 62, 32, 61, 32, 33]⟩
def signsAt (k : Nat) : List ByteArray := if k = 0 then twos.map fun x => ⟨x.toArray⟩ else ones.map fun x => ⟨#[x]⟩
def preB (l : List UInt8) (p : ByteArray) : Bool := Lib.hasPrefix l p.data.toList
theorem split0 : (Lib.splitB ⟨#[32]⟩ 0 (Lib.countB (signStr 0) ⟨#[32]⟩) (signStr 0)) = signsAt 0 ∧ Lib.countB (signStr 0) ⟨#[32]⟩ + 1 = 8 := ⟨by kernel_rfl, by kernel_rfl⟩
theorem split1 : (Lib.splitB ⟨#[32]⟩ 0 (Lib.countB (signStr 1) ⟨#[32]⟩) (signStr 1)) = signsAt 1 ∧ Lib.countB (signStr 1) ⟨#[32]⟩ + 1 = 17 := ⟨by kernel_rfl, by kernel_rfl⟩
theorem size0 : (signsAt 0).length = 8 := by kernel_rfl
theorem size1 : (signsAt 1).length = 17 := by kernel_rfl
theorem split_at {k : Nat} (h : k < 2) : Lib.splitB ⟨#[32]⟩ 0 (Lib.countB (signStr k) ⟨#[32]⟩) (signStr k) = signsAt k ∧ Lib.countB (signStr k) ⟨#[32]⟩ + 1 = (signsAt k).length ∧ (signStr k).size < 4294967281 ∧ (signsAt k).length ≤ 17 := by
  match k, h with
  | 0, _ => exact ⟨split0.1, by rw [size0]; exact split0.2, by decide, by rw [size0]; decide⟩
  | 1, _ => exact ⟨split1.1, by rw [size1]; exact split1.2, by decide, by rw [size1]; decide⟩
/-- Of texts of one length the first that stands ahead. -/
theorem find_len (l : List UInt8) (n : Nat) : ∀ L : List ByteArray, (∀ p ∈ L, p.data.toList.length = n) → L.find? (preB l) = if (L.map fun p => p.data.toList).contains (l.take n) then some ⟨(l.take n).toArray⟩ else none
  | [], _ => rfl
  | p :: L, h => by
    rw [List.find?_cons]
    cases hp : preB l p with
    | true =>
      have hq : p.data.toList <+: l := List.isPrefixOf_iff_prefix.1 hp
      have he : p.data.toList = l.take n := by
        rw [← h p (by simp)]
        exact (List.prefix_iff_eq_take.1 hq)
      rw [if_pos (by rw [List.map_cons, he]; simp)]
      show some p = _
      congr 1
      rcases p with ⟨a⟩
      congr 1
      simp at he
      rw [← he]
    | false =>
      have hne : ¬ p.data.toList = l.take n := fun he => by
        have : p.data.toList <+: l := by rw [he]; exact List.take_prefix n l
        have := List.isPrefixOf_iff_prefix.2 this
        have hp : p.data.toList.isPrefixOf l = false := hp
        rw [this] at hp
        cases hp
      show L.find? (preB l) = _
      rw [find_len l n L fun q hq => h q (by simp [hq]), List.map_cons, List.contains_cons]
      have : (l.take n == p.data.toList) = false := by
        rw [beq_eq_false_iff_ne]
        exact fun e => hne e.symm
      rw [this, Bool.false_or]
theorem find0 (l : List UInt8) : (signsAt 0).find? (preB l) = if twos.contains (l.take 2) then some ⟨(l.take 2).toArray⟩ else none := by
  rw [find_len l 2 (signsAt 0) (by decide)]
  rw [show (signsAt 0).map (fun p => p.data.toList) = twos from by kernel_rfl]
theorem find1 (b : UInt8) (l : List UInt8) : (signsAt 1).find? (preB (b :: l)) = if ones.contains b then some ⟨#[b]⟩ else none := by
  rw [find_len (b :: l) 1 (signsAt 1) (by decide)]
  have e : ((signsAt 1).map fun p => p.data.toList).contains [b] = ones.contains b := by
    rw [show (signsAt 1).map (fun p => p.data.toList) = ones.map fun x => [x] from by kernel_rfl]
    generalize ones = L
    induction L with
    | nil => rfl
    | cons x L ih =>
      rw [List.map_cons, List.contains_cons, List.contains_cons, ih]
      congr 1
      rw [Bool.eq_iff_iff]
      simp
  rw [show (b :: l).take 1 = [b] from rfl, e]
def signF (l : List UInt8) : ByteArray := match (signsAt 0).find? (preB l) with
  | some x => x
  | none => ((signsAt 1).find? (preB l)).getD ⟨#[]⟩
theorem signF_eq (s : ByteArray) (h : 0 < s.size) : signF s.data.toList = s.extract 0 (signN s.data.toList) := by
  have hd := drop_byte (s := s) (i := 0) h
  rw [List.drop_zero] at hd
  have key : signF s.data.toList = ⟨(s.data.toList.take (signN s.data.toList)).toArray⟩ := by
    unfold signF signN
    rw [find0]
    cases twos.contains (s.data.toList.take 2) with
    | true => rfl
    | false =>
      simp only [Bool.false_eq_true, if_false]
      rw [hd, find1]
      show (if ones.contains s[0] = true then some (⟨#[s[0]]⟩ : ByteArray) else none).getD ⟨#[]⟩ = ⟨(List.take (if ones.contains s[0] = true then 1 else 0) (s[0] :: s.data.toList.drop (0 + 1))).toArray⟩
      cases ones.contains s[0] with
      | true => rfl
      | false => rfl
  rw [key]
  apply ByteArray.ext
  apply Array.toList_inj.1
  rw [extract_list]
  simp
theorem find_step {L : List ByteArray} {p : ByteArray → Bool} {j : Nat} (h : j < L.length) : (L.drop j).find? p = if p (L.getD j ⟨#[]⟩) then some (L.getD j ⟨#[]⟩) else (L.drop (j + 1)).find? p := by
  rw [List.drop_eq_getElem_cons h, List.find?_cons, List.getD_eq_getElem?_getD, List.getElem?_eq_getElem h]
  simp only [Option.getD_some]
  cases p L[j] <;> rfl
theorem cell_strs (w : World) (L : List ByteArray) (j : Nat) (h : j < L.length) : (w.alloc (.cells (L.map Value.string).toArray 9)).cell? ⟨w.heap.size, j, none⟩ = some (.string (L.getD j ⟨#[]⟩)) := by
  rw [World.cell?_alloc_new]
  simp [List.getD_eq_getElem?_getD, List.getElem?_eq_getElem h]
set_option maxRecDepth 100000 in
set_option maxHeartbeats 3200000 in
theorem sign_any (s : ByteArray) (m : Int) (w : World) (hp : 0 < s.size) (hm : w.cell? ⟨0, 0, none⟩ = some (.int .i64 m)) :
    Calls Tryz.prog 110 #[.string s] w fun e w' => e = .returned (.string (s.extract 0 (signN s.data.toList))) ∧ Below w.heap.size w w' := by
  rw [← signF_eq s hp]
  obtain ⟨F, hF⟩ : ∃ F, signF s.data.toList = F := ⟨_, rfl⟩
  rw [hF]
  have HF := Lib.hid hF
  have hb0 : 0 < w.heap.size := World.block_lt_of_cell? w _ hm
  have hB1 : Below w.heap.size w (w.alloc (.cells #[.string (signStr 0), .string (signStr 1)] 9)) := (Below.refl _ w).alloc (Nat.le_refl _) _
  have HB1 := Lib.hid hB1
  have hc0 : ∀ k, k < 2 → (w.alloc (.cells #[.string (signStr 0), .string (signStr 1)] 9)).cell? ⟨w.heap.size, k, none⟩ = some (.string (signStr k)) := by
    intro k hk
    rw [World.cell?_alloc_new]
    match k, hk with
    | 0, _ => rfl
    | 1, _ => rfl
  have HC0 := Lib.hid hc0
  have Hm := Lib.hid hm
  clear hF hB1 hc0 hm
  go_enter Tryz.func110, Tryz.ntmps110
  go_wp2_with fail
  go_step3
  go_wp2_with fail
  go_step3
  go_wp2_with fail
  go_loopg [3, 10] 2 (fun g s3 s10 wx => ∃ k : Nat, k + g = 2 ∧ s10 = .int .i64 k ∧ s3 = .string ⟨#[]⟩ ∧ Below (w.heap.size + 1) (w.alloc (.cells #[.string (signStr 0), .string (signStr 1)] 9)) wx ∧ Aside (1 ≤ k → (signsAt 0).find? (preB s.data.toList) = none) ∧ Aside (2 ≤ k → (signsAt 1).find? (preB s.data.toList) = none))
  case atStart => exact ⟨0, rfl, rfl, rfl, Below.refl _ _, fun h => absurd h (by omega), fun h => absurd h (by omega)⟩
  case round =>
    obtain ⟨k, hkg, rfl, rfl, hbx, hn0, hn1⟩ := hrel
    have HBx := Lib.hid hbx
    clear hbx
    cases gk with
    | zero =>
      have hkz : ¬ ((k : Int) < 2) := by omega
      have hFe : F = ⟨#[]⟩ := by
        rw [← HF.out]
        unfold signF
        rw [hn0.out (by omega), hn1.out (by omega)]
        rfl
      have HFe := Lib.hid hFe
      clear hFe
      go_wp2_with fail
      go_ret
      rw [HFe.out]
      exact ⟨rfl, HB1.out.trans (HBx.out.mono (by omega))⟩
    | succ g =>
      have hk2 : k < 2 := by omega
      have hkz : (k : Int) < 2 := by omega
      have hkz0 : (0 : Int) ≤ (k : Int) := by omega
      obtain ⟨hsp, hct, hsz, hlen⟩ := split_at hk2
      have hcell : wr.cell? ⟨w.heap.size, k, none⟩ = some (.string (signStr k)) := (HBx.out.cell (p := ⟨w.heap.size, k, none⟩) (by simp)).trans (HC0.out k hk2)
      have hmr : wr.cell? ⟨0, 0, none⟩ = some (.int .i64 m) := (HBx.out.cell (p := ⟨0, 0, none⟩) (by simp)).trans ((HB1.out.cell (p := ⟨0, 0, none⟩) hb0).trans Hm.out)
      have cs := Tryz.strings_Split (signStr k) ⟨#[32]⟩ m wr hsz hmr (by decide)
      rw [hsp, hct] at cs
      obtain ⟨c, hc⟩ : ∃ c, signStr k = c := ⟨_, rfl⟩
      obtain ⟨L, hL⟩ : ∃ L, signsAt k = L := ⟨_, rfl⟩
      rw [hc] at cs hcell
      rw [hL] at cs hlen
      have HL := Lib.hid hL
      have CS := Lib.hid cs
      clear cs hsp hct hsz hmr hc hL
      go_wp2_with fail
      refine CS.out.mono ?_
      rintro e w2 ⟨rfl, rfl⟩
      have HcS : Hid (∀ j, j < L.length → (wr.alloc (.cells (L.map Value.string).toArray 9)).cell? ⟨wr.heap.size, j, none⟩ = some (.string (L.getD j ⟨#[]⟩))) := Lib.hid fun j hj => cell_strs wr L j hj
      have HB2 : Hid (Below (w.heap.size + 1) (w.alloc (.cells #[.string (signStr 0), .string (signStr 1)] 9)) (wr.alloc (.cells (L.map Value.string).toArray 9))) := Lib.hid (HBx.out.trans ((Below.refl _ wr).alloc (by have := HBx.out.size; simpa using this) _))
      obtain ⟨W2, hW2⟩ : ∃ W, wr.alloc (.cells (L.map Value.string).toArray 9) = W := ⟨_, rfl⟩
      obtain ⟨B2, hB2⟩ : ∃ B, wr.heap.size = B := ⟨_, rfl⟩
      rw [hW2] at HcS HB2 ⊢
      rw [hB2] at HcS ⊢
      clear hW2 hB2 hcell
      go_wp2_with fail
      go_loopg [3, 7, 17] L.length (fun g2 s3 s7 s17 wy => ∃ j : Nat, j + g2 = L.length ∧ s17 = .int .i64 j ∧ s3 = .string ⟨#[]⟩ ∧ Aside ((L.drop j).find? (preB s.data.toList) = L.find? (preB s.data.toList)) ∧ W2 = wy)
      case atStart => exact ⟨0, by omega, rfl, rfl, rfl, rfl⟩
      case round =>
        obtain ⟨j, hjg, rfl, rfl, hj, rfl⟩ := hrel
        cases gk with
        | zero =>
          have hjz : ¬ ((j : Int) < (L.length : Int)) := by omega
          have hnone : L.find? (preB s.data.toList) = none := by rw [← hj.out, List.drop_of_length_le (by omega)]; rfl
          have HN := Lib.hid hnone
          clear hnone
          go_wp2_with fail
          go_roundg g
          case measure => omega
          case rel => exact ⟨k + 1, by omega, by go_num, rfl, HB2.out, fun h => by
              have h0 := HL.out
              by_cases e : k = 0
              · subst e; rw [h0]; exact HN.out
              · exact hn0.out (by omega), fun h => by
              have h0 := HL.out
              have e : k = 1 := by omega
              subst e; rw [h0]; exact HN.out⟩
        | succ g2 =>
          have hjz : (j : Int) < (L.length : Int) := by omega
          have hj0 : (0 : Int) ≤ (j : Int) := by omega
          have hcell2 := HcS.out j (by omega)
          obtain ⟨p, hpp⟩ : ∃ p, L.getD j ⟨#[]⟩ = p := ⟨_, rfl⟩
          have hstep := find_step (L := L) (p := preB s.data.toList) (j := j) (by omega)
          rw [hpp] at hcell2 hstep
          obtain ⟨b, hb⟩ : ∃ b, preB s.data.toList p = b := ⟨_, rfl⟩
          rw [hb] at hstep
          have c2 := prefix_any s p W2
          rw [show Lib.hasPrefix s.data.toList p.data.toList = b from hb] at c2
          have C2 := Lib.hid c2
          have HSt := Lib.hid hstep
          clear hpp hb c2 hstep
          cases b with
          | false =>
            go_wp2_with fail
            refine C2.out.mono ?_
            rintro e w3 ⟨rfl, rfl⟩
            go_wp2_with fail
            go_roundg g2
            case measure => omega
            case rel => exact ⟨j + 1, by omega, by go_num, rfl, by
                have h1 := HSt.out
                show _ = _
                rw [← hj.out, h1]
                rfl, by trivial⟩
          | true =>
            have hFp : F = p := by
              have h1 := HSt.out
              rw [hj.out] at h1
              have h1 : L.find? (preB s.data.toList) = some p := h1
              rw [← HF.out]
              unfold signF
              rcases Nat.lt_or_ge k 1 with h | h
              · have e : k = 0 := by omega
                subst e
                rw [HL.out, h1]
              · have e : k = 1 := by omega
                subst e
                rw [hn0.out (by omega), HL.out, h1]
                rfl
            have HFp := Lib.hid hFp
            clear hFp
            go_wp2_with fail
            refine C2.out.mono ?_
            rintro e w3 ⟨rfl, rfl⟩
            go_wp2_with fail
            try rw [Exit.noGoto_ret]
            go_ret
            rw [HFp.out]
            exact ⟨rfl, HB1.out.trans (HB2.out.mono (by omega))⟩
end Go.Proofs.YtffkaphbgfdpaaaGreatDoor.L
end

section
/- What is ahead: one token. -/
namespace Go.Proofs.YtffkaphbgfdpaaaGreatDoor.L
open Go.RowKit Go.Shelf
set_option linter.unusedVariables false
set_option maxRecDepth 100000
set_option linter.unusedSimpArgs false

/-- What a token's look says: the error's number, the kind, the length, the value. -/
structure TR where
  err : Int
  kind : Int
  len : Nat
  n : Int
deriving DecidableEq
/-- A text that begins with a digit. -/
def figR (l : List UInt8) : TR :=
  if 0 < (l.take (runN quadB l)).count 46 then ⟨0, 3, runN quadB l, 0⟩
  else match numL (l.take (runN wordB l)) with
    | some v => ⟨0, 1, runN wordB l, v⟩
    | none => ⟨102, 0, 0, 0⟩
def hdI (l : List UInt8) : Int := ((l.headD 0).toNat : Int)
def tokR (l : List UInt8) : TR :=
  if 2 ≤ (l.take (runN sixB l)).count 58 then ⟨0, 4, runN sixB l, 0⟩
  else if digitB (hdI l) then figR l
  else if letterB (hdI l) then ⟨0, 2, runN wordB l, 0⟩
  else if signN l = 0 then ⟨101, 0, 0, 0⟩ else ⟨0, 5, signN l, 0⟩
def tokV (r : TR) (at0 : Int) (t : ByteArray) : Value := .tuple #[.agg #[.int .i64 r.kind, .int .i64 at0, .string t, .int .u32 r.n], .int .i64 r.err]
theorem count_has (l : List UInt8) (c : UInt8) : decide (0 ≤ Lib.indexByte l c) = decide (0 < l.count c) := by
  rw [decide_eq_decide, List.count_pos_iff]
  constructor
  · intro h
    obtain ⟨o, ho⟩ := Int.eq_ofNat_of_zero_le h
    obtain ⟨h1, _⟩ := Lib.indexByte_some ho
    exact List.mem_of_getElem? h1
  · intro h
    have h1 := Lib.indexByte_ge l c
    by_cases e : Lib.indexByte l c = -1
    · obtain ⟨k, hk, he⟩ := List.getElem_of_mem h
      exact absurd (by rw [List.getElem?_eq_getElem hk, he]) (Lib.indexByte_none e k)
    · omega
theorem take_extract (s : ByteArray) (n : Nat) : (s.extract 0 n).data.toList = s.data.toList.take n := by
  rw [extract_list]
  simp
theorem extract_size_le (s : ByteArray) (a b : Nat) : (s.extract a b).size ≤ s.size := by
  rw [ByteArray.size_extract]
  omega
theorem extract_zero (s : ByteArray) : s.extract 0 0 = ⟨#[]⟩ := extract_nil s 0
theorem numL_isSome {l : List UInt8} {v : Int} (h : numL l = some v) : (numL l).isSome = true ∧ (numL l).getD 0 = v := by rw [h]; exact ⟨rfl, rfl⟩
theorem numL_isNone {l : List UInt8} (h : numL l = none) : (numL l).isSome = false ∧ (numL l).getD 0 = 0 := by rw [h]; exact ⟨rfl, rfl⟩
/-- The new variable of a token, in what comes behind. -/
theorem var_later (w : World) {W : World} (hB : Below (w.alloc (.cells #[.int .i64 0, .int .i64 0, .string ⟨#[]⟩, .int .u32 0] 83)).heap.size (w.alloc (.cells #[.int .i64 0, .int .i64 0, .string ⟨#[]⟩, .int .u32 0] 83)) W) : W.heap[w.heap.size]? = some (.cells #[.int .i64 0, .int .i64 0, .string ⟨#[]⟩, .int .u32 0] 83 (0, 0)) ∧ w.heap.size < W.heap.size ∧ Below w.heap.size w W := by
  have h := heap_alloc_new w (.cells #[.int .i64 0, .int .i64 0, .string ⟨#[]⟩, .int .u32 0] 83)
  refine ⟨(hB.block _ (by simp)).trans h, by have := hB.size; simp at this; omega, ((Below.refl _ w).alloc (Nat.le_refl _) _).trans (hB.mono (by simp))⟩
set_option maxRecDepth 100000 in
theorem figure_any (s : ByteArray) (w : World) (hs : s.size ≤ 4611686018427387904) :
    Calls Tryz.prog 107 #[.string s] w fun e w' => e = .returned (tokV (figR s.data.toList) 0 (s.extract 0 (figR s.data.toList).len)) ∧ Below w.heap.size w w' := by
  have hs2 : s.size ≤ 9223372036854775807 := by omega
  obtain ⟨R, hR⟩ : ∃ R, figR s.data.toList = R := ⟨_, rfl⟩
  rw [hR]
  have c0 := run_any _ _ fn_quad s (w.alloc (.cells #[.int .i64 0, .int .i64 0, .string ⟨#[]⟩, .int .u32 0] 83)) hs2
  obtain ⟨q, hq⟩ : ∃ q, s.extract 0 (runN quadB s.data.toList) = q := ⟨_, rfl⟩
  have hql := take_extract s (runN quadB s.data.toList)
  rw [hq] at c0 hql
  have c1 := Tryz.strings_Contains_one q 46 (w.alloc (.cells #[.int .i64 0, .int .i64 0, .string ⟨#[]⟩, .int .u32 0] 83))
  rw [count_has, hql] at c1
  have C0 := Lib.hid c0
  unfold figR at hR
  obtain ⟨b, hb⟩ : ∃ b, decide (0 < (s.data.toList.take (runN quadB s.data.toList)).count 46) = b := ⟨_, rfl⟩
  rw [hb] at c1
  have C1 := Lib.hid c1
  have Hq := Lib.hid hq
  clear c0 c1 hq hql
  cases b with
  | true =>
    rw [if_pos (of_decide_eq_true hb)] at hR
    subst hR
    clear hb
    go_enter Tryz.func107, Tryz.ntmps107
    go_wp2_with fail
    refine C0.out.mono ?_
    rintro e w2 ⟨rfl, rfl⟩
    go_wp2_with fail
    refine C1.out.mono ?_
    rintro e w2 ⟨rfl, rfl⟩
    go_wp2_with fail
    refine bodyPost_ret (v := .tuple #[.agg #[.int .i64 3, .int .i64 0, .string q, .int .u32 0], .int .i64 0]) (by simp [results, Tryz.results107, go_sem, *]) rfl ⟨by rw [← Hq.out]; rfl, ?_⟩
    exact (Below.refl _ w).alloc (Nat.le_refl _) _
  | false =>
    rw [if_neg (of_decide_eq_false hb)] at hR
    have c2 := run_any _ _ fn_word2 s (w.alloc (.cells #[.int .i64 0, .int .i64 0, .string ⟨#[]⟩, .int .u32 0] 83)) hs2
    obtain ⟨r, hr⟩ : ∃ r, s.extract 0 (runN wordB s.data.toList) = r := ⟨_, rfl⟩
    have hrl := take_extract s (runN wordB s.data.toList)
    rw [hr] at c2 hrl
    have hrs : r.size ≤ 4611686018427387904 := by
      have := extract_size_le s 0 (runN wordB s.data.toList)
      rw [hr] at this
      omega
    have c3 := number_any r (w.alloc (.cells #[.int .i64 0, .int .i64 0, .string ⟨#[]⟩, .int .u32 0] 83)) hrs
    rw [hrl] at c3
    have C2 := Lib.hid c2
    have Hr := Lib.hid hr
    have HR := Lib.hid hR
    clear hb c2 hr hrl hR hrs
    cases hn : numL (s.data.toList.take (runN wordB s.data.toList)) with
    | some v =>
      obtain ⟨e1, e2⟩ := numL_isSome hn
      rw [e1, e2] at c3
      have C3 := Lib.hid c3
      have hR := HR.out
      rw [hn] at hR
      have hR : (⟨0, 1, runN wordB s.data.toList, v⟩ : TR) = R := hR
      subst hR
      clear e1 e2 c3 hn HR
      go_enter Tryz.func107, Tryz.ntmps107
      go_wp2_with fail
      refine C0.out.mono ?_
      rintro e w2 ⟨rfl, rfl⟩
      go_wp2_with fail
      refine C1.out.mono ?_
      rintro e w2 ⟨rfl, rfl⟩
      go_wp2_with fail
      refine C2.out.mono ?_
      rintro e w2 ⟨rfl, rfl⟩
      go_wp2_with fail
      refine C3.out.mono ?_
      rintro e w2 ⟨rfl, hB⟩
      obtain ⟨hblk, hsz, hBx⟩ := var_later w hB
      have k0 : w2.cell? ⟨w.heap.size, 0, none⟩ = some (.int .i64 0) := cell_of_row w2 _ 0 _ _ _ hblk
      have k1 : w2.cell? ⟨w.heap.size, 1, none⟩ = some (.int .i64 0) := cell_of_row w2 _ 1 _ _ _ hblk
      have k2 : w2.cell? ⟨w.heap.size, 2, none⟩ = some (.string ⟨#[]⟩) := cell_of_row w2 _ 2 _ _ _ hblk
      have k3 : w2.cell? ⟨w.heap.size, 3, none⟩ = some (.int .u32 0) := cell_of_row w2 _ 3 _ _ _ hblk
      have f0 := frozen_of_row w2 (w.heap.size) 0 _ _ hblk
      have f1 := frozen_of_row w2 (w.heap.size) 1 _ _ hblk
      have f2 := frozen_of_row w2 (w.heap.size) 2 _ _ hblk
      have f3 := frozen_of_row w2 (w.heap.size) 3 _ _ hblk
      have HBx := Lib.hid hBx
      clear hB hblk hBx
      go_wp2_with fail
      refine bodyPost_ret (v := .tuple #[.agg #[.int .i64 1, .int .i64 0, .string r, .int .u32 v], .int .i64 0]) (by simp [results, Tryz.results107, go_sem, *]) rfl ⟨by rw [← Hr.out]; rfl, ?_⟩
      have hBx := HBx.out
      repeat (first | exact hBx | refine Below.setCell ?_ ?_ _ | refine Below.drew ?_ | refine Below.alloc ?_ ?_ _ | exact Below.refl _ _)
      all_goals first | omega | (simp; omega) | simp
    | none =>
      obtain ⟨e1, e2⟩ := numL_isNone hn
      rw [e1, e2] at c3
      have C3 := Lib.hid c3
      have hR := HR.out
      rw [hn] at hR
      have hR : (⟨102, 0, 0, 0⟩ : TR) = R := hR
      subst hR
      clear e1 e2 c3 hn HR
      go_enter Tryz.func107, Tryz.ntmps107
      go_wp2_with fail
      refine C0.out.mono ?_
      rintro e w2 ⟨rfl, rfl⟩
      go_wp2_with fail
      refine C1.out.mono ?_
      rintro e w2 ⟨rfl, rfl⟩
      go_wp2_with fail
      refine C2.out.mono ?_
      rintro e w2 ⟨rfl, rfl⟩
      go_wp2_with fail
      refine C3.out.mono ?_
      rintro e w2 ⟨rfl, hB⟩
      obtain ⟨hblk, hsz, hBx⟩ := var_later w hB
      have k0 : w2.cell? ⟨w.heap.size, 0, none⟩ = some (.int .i64 0) := cell_of_row w2 _ 0 _ _ _ hblk
      have k1 : w2.cell? ⟨w.heap.size, 1, none⟩ = some (.int .i64 0) := cell_of_row w2 _ 1 _ _ _ hblk
      have k2 : w2.cell? ⟨w.heap.size, 2, none⟩ = some (.string ⟨#[]⟩) := cell_of_row w2 _ 2 _ _ _ hblk
      have k3 : w2.cell? ⟨w.heap.size, 3, none⟩ = some (.int .u32 0) := cell_of_row w2 _ 3 _ _ _ hblk
      have f0 := frozen_of_row w2 (w.heap.size) 0 _ _ hblk
      have f1 := frozen_of_row w2 (w.heap.size) 1 _ _ hblk
      have f2 := frozen_of_row w2 (w.heap.size) 2 _ _ hblk
      have f3 := frozen_of_row w2 (w.heap.size) 3 _ _ hblk
      have HBx := Lib.hid hBx
      clear hB hblk hBx
      go_wp2_with fail
      refine bodyPost_ret (v := .tuple #[.agg #[.int .i64 0, .int .i64 0, .string ⟨#[]⟩, .int .u32 0], .int .i64 102]) (by simp [results, Tryz.results107, go_sem, *]) rfl ⟨by rw [extract_zero]; rfl, ?_⟩
      have hBx := HBx.out
      repeat (first | exact hBx | refine Below.setCell ?_ ?_ _ | refine Below.drew ?_ | refine Below.alloc ?_ ?_ _ | exact Below.refl _ _)
      all_goals first | omega | (simp; omega) | simp
theorem hd_byte {s : ByteArray} (h : 0 < s.size) : hdI s.data.toList = (s[0].toNat : Int) := by
  have hd := drop_byte (s := s) (i := 0) h
  rw [List.drop_zero] at hd
  unfold hdI
  rw [hd]
  rfl
set_option maxRecDepth 100000 in
set_option maxHeartbeats 1600000 in
theorem token_any (s : ByteArray) (m : Int) (w : World) (hs : s.size ≤ 4611686018427387904) (hp : 0 < s.size) (hm : w.cell? ⟨0, 0, none⟩ = some (.int .i64 m)) :
    Calls Tryz.prog 52 #[.string s] w fun e w' => e = .returned (tokV (tokR s.data.toList) 0 (s.extract 0 (tokR s.data.toList).len)) ∧ Below w.heap.size w w' := by
  have hs2 : s.size ≤ 9223372036854775807 := by omega
  have hb0 : 0 < w.heap.size := World.block_lt_of_cell? w _ hm
  have hm1 : (w.alloc (.cells #[.int .i64 0, .int .i64 0, .string ⟨#[]⟩, .int .u32 0] 83)).cell? ⟨0, 0, none⟩ = some (.int .i64 m) := (((Below.refl _ w).alloc (Nat.le_refl _) (.cells #[.int .i64 0, .int .i64 0, .string ⟨#[]⟩, .int .u32 0] 83)).cell (p := ⟨0, 0, none⟩) hb0).trans hm
  have Hm1 := Lib.hid hm1
  have i0 : (0 : Int) < (s.size : Int) := by omega
  obtain ⟨R, hR⟩ : ∃ R, tokR s.data.toList = R := ⟨_, rfl⟩
  rw [hR]
  have c0 := run_any _ _ fn_six s (w.alloc (.cells #[.int .i64 0, .int .i64 0, .string ⟨#[]⟩, .int .u32 0] 83)) hs2
  obtain ⟨q, hq⟩ : ∃ q, s.extract 0 (runN sixB s.data.toList) = q := ⟨_, rfl⟩
  have hql := take_extract s (runN sixB s.data.toList)
  rw [hq] at c0 hql
  have c1 := Tryz.strings_Count_one q 58 (w.alloc (.cells #[.int .i64 0, .int .i64 0, .string ⟨#[]⟩, .int .u32 0] 83))
  unfold Lib.countByte at c1
  rw [hql] at c1
  obtain ⟨N, hN⟩ : ∃ N, (s.data.toList.take (runN sixB s.data.toList)).count 58 = N := ⟨_, rfl⟩
  unfold tokR at hR
  rw [hN] at c1 hR
  have C0 := Lib.hid c0
  have C1 := Lib.hid c1
  have Hq := Lib.hid hq
  clear c0 c1 hq hql hN hm hm1
  by_cases h2 : 2 ≤ N
  · rw [if_pos h2] at hR
    subst hR
    have hge : (2 : Int) ≤ (N : Int) := by omega
    clear h2
    go_enter Tryz.func52, Tryz.ntmps52
    go_wp2_with fail
    refine C0.out.mono ?_
    rintro e w2 ⟨rfl, rfl⟩
    go_wp2_with fail
    refine C1.out.mono ?_
    rintro e w2 ⟨rfl, rfl⟩
    go_wp2_with fail
    refine bodyPost_ret (v := .tuple #[.agg #[.int .i64 4, .int .i64 0, .string q, .int .u32 0], .int .i64 0]) (by simp [results, Tryz.results52, go_sem, *]) rfl ⟨by rw [← Hq.out]; rfl, ?_⟩
    exact (Below.refl _ w).alloc (Nat.le_refl _) _
  · rw [if_neg h2] at hR
    have hge : ¬ (2 : Int) ≤ (N : Int) := by omega
    have e0 := hd_byte hp
    rw [e0] at hR
    clear h2 e0
    obtain ⟨d, hd⟩ : ∃ d, digitB (s[0].toNat : Int) = d := ⟨_, rfl⟩
    rw [hd] at hR
    have cd := digit_any (s[0].toNat : Int) (w.alloc (.cells #[.int .i64 0, .int .i64 0, .string ⟨#[]⟩, .int .u32 0] 83))
    rw [hd] at cd
    have Cd := Lib.hid cd
    have HR := Lib.hid hR
    clear hd cd hR
    cases d with
    | true =>
      have hR : figR s.data.toList = R := HR.out
      have cf := figure_any s (w.alloc (.cells #[.int .i64 0, .int .i64 0, .string ⟨#[]⟩, .int .u32 0] 83)) hs
      rw [hR] at cf
      have Cf := Lib.hid cf
      clear hR cf HR
      go_enter Tryz.func52, Tryz.ntmps52
      go_wp2_with fail
      refine C0.out.mono ?_
      rintro e w2 ⟨rfl, rfl⟩
      go_wp2_with fail
      refine C1.out.mono ?_
      rintro e w2 ⟨rfl, rfl⟩
      go_wp2_with fail
      refine Cd.out.mono ?_
      rintro e w2 ⟨rfl, rfl⟩
      go_wp2_with fail
      refine Cf.out.mono ?_
      obtain ⟨t, ht⟩ : ∃ t, s.extract 0 R.len = t := ⟨_, rfl⟩
      rw [ht]
      obtain ⟨e0, k0', n0', v0'⟩ := R
      rintro e w2 ⟨rfl, hB⟩
      obtain ⟨hblk, hsz, hBx⟩ := var_later w hB
      have k0 : w2.cell? ⟨w.heap.size, 0, none⟩ = some (.int .i64 0) := cell_of_row w2 _ 0 _ _ _ hblk
      have k1 : w2.cell? ⟨w.heap.size, 1, none⟩ = some (.int .i64 0) := cell_of_row w2 _ 1 _ _ _ hblk
      have k2 : w2.cell? ⟨w.heap.size, 2, none⟩ = some (.string ⟨#[]⟩) := cell_of_row w2 _ 2 _ _ _ hblk
      have k3 : w2.cell? ⟨w.heap.size, 3, none⟩ = some (.int .u32 0) := cell_of_row w2 _ 3 _ _ _ hblk
      have f0 := frozen_of_row w2 (w.heap.size) 0 _ _ hblk
      have f1 := frozen_of_row w2 (w.heap.size) 1 _ _ hblk
      have f2 := frozen_of_row w2 (w.heap.size) 2 _ _ hblk
      have f3 := frozen_of_row w2 (w.heap.size) 3 _ _ hblk
      have HBx := Lib.hid hBx
      have Ht := Lib.hid ht
      clear hB hblk hBx ht
      unfold tokV
      go_wp2_with fail
      refine bodyPost_ret (v := .tuple #[.agg #[.int .i64 k0', .int .i64 0, .string t, .int .u32 v0'], .int .i64 e0]) (by simp [results, Tryz.results52, go_sem, *]) rfl ⟨by rw [← Ht.out]; rfl, ?_⟩
      have hBx := HBx.out
      repeat (first | exact hBx | refine Below.setCell ?_ ?_ _ | refine Below.drew ?_ | refine Below.alloc ?_ ?_ _ | exact Below.refl _ _)
      all_goals first | omega | (simp; omega) | simp
    | false =>
      have hR := HR.out
      rw [if_neg (by simp)] at hR
      obtain ⟨d, hd⟩ : ∃ d, letterB (s[0].toNat : Int) = d := ⟨_, rfl⟩
      rw [hd] at hR
      have cl := letter_any (s[0].toNat : Int) (w.alloc (.cells #[.int .i64 0, .int .i64 0, .string ⟨#[]⟩, .int .u32 0] 83))
      rw [hd] at cl
      have Cl := Lib.hid cl
      clear hd cl HR
      cases d with
      | true =>
        rw [if_pos rfl] at hR
        subst hR
        have c2 := run_any _ _ fn_word s (w.alloc (.cells #[.int .i64 0, .int .i64 0, .string ⟨#[]⟩, .int .u32 0] 83)) hs2
        obtain ⟨r, hr⟩ : ∃ r, s.extract 0 (runN wordB s.data.toList) = r := ⟨_, rfl⟩
        rw [hr] at c2
        have C2 := Lib.hid c2
        have Hr := Lib.hid hr
        clear c2 hr
        go_enter Tryz.func52, Tryz.ntmps52
        go_wp2_with fail
        refine C0.out.mono ?_
        rintro e w2 ⟨rfl, rfl⟩
        go_wp2_with fail
        refine C1.out.mono ?_
        rintro e w2 ⟨rfl, rfl⟩
        go_wp2_with fail
        refine Cd.out.mono ?_
        rintro e w2 ⟨rfl, rfl⟩
        go_wp2_with fail
        refine Cl.out.mono ?_
        rintro e w2 ⟨rfl, rfl⟩
        go_wp2_with fail
        refine C2.out.mono ?_
        rintro e w2 ⟨rfl, rfl⟩
        go_wp2_with fail
        refine bodyPost_ret (v := .tuple #[.agg #[.int .i64 2, .int .i64 0, .string r, .int .u32 0], .int .i64 0]) (by simp [results, Tryz.results52, go_sem, *]) rfl ⟨by rw [← Hr.out]; rfl, ?_⟩
        exact (Below.refl _ w).alloc (Nat.le_refl _) _
      | false =>
        rw [if_neg (by simp)] at hR
        have c2 := sign_any s m (w.alloc (.cells #[.int .i64 0, .int .i64 0, .string ⟨#[]⟩, .int .u32 0] 83)) hp Hm1.out
        obtain ⟨r, hr⟩ : ∃ r, s.extract 0 (signN s.data.toList) = r := ⟨_, rfl⟩
        have hrs : r.size = signN s.data.toList := by
          rw [← hr, ByteArray.size_extract]
          have := (signN_le s.data.toList).2
          rw [size_list] at this
          omega
        rw [hr] at c2
        have C2 := Lib.hid c2
        have Hr := Lib.hid hr
        clear c2 hr
        by_cases hz : signN s.data.toList = 0
        · rw [if_pos hz] at hR
          subst hR
          have hr0 : r = ⟨#[]⟩ := (empty_iff r).2 (by omega)
          have C3 := C2.out
          rw [hr0] at C3
          have C4 := Lib.hid C3
          clear hrs hz hr0 C3 C2
          go_enter Tryz.func52, Tryz.ntmps52
          go_wp2_with fail
          refine C0.out.mono ?_
          rintro e w2 ⟨rfl, rfl⟩
          go_wp2_with fail
          refine C1.out.mono ?_
          rintro e w2 ⟨rfl, rfl⟩
          go_wp2_with fail
          refine Cd.out.mono ?_
          rintro e w2 ⟨rfl, rfl⟩
          go_wp2_with fail
          refine Cl.out.mono ?_
          rintro e w2 ⟨rfl, rfl⟩
          go_wp2_with fail
          refine C4.out.mono ?_
          rintro e w2 ⟨rfl, hB⟩
          obtain ⟨hblk, hsz, hBx⟩ := var_later w hB
          have k0 : w2.cell? ⟨w.heap.size, 0, none⟩ = some (.int .i64 0) := cell_of_row w2 _ 0 _ _ _ hblk
          have k1 : w2.cell? ⟨w.heap.size, 1, none⟩ = some (.int .i64 0) := cell_of_row w2 _ 1 _ _ _ hblk
          have k2 : w2.cell? ⟨w.heap.size, 2, none⟩ = some (.string ⟨#[]⟩) := cell_of_row w2 _ 2 _ _ _ hblk
          have k3 : w2.cell? ⟨w.heap.size, 3, none⟩ = some (.int .u32 0) := cell_of_row w2 _ 3 _ _ _ hblk
          have f0 := frozen_of_row w2 (w.heap.size) 0 _ _ hblk
          have f1 := frozen_of_row w2 (w.heap.size) 1 _ _ hblk
          have f2 := frozen_of_row w2 (w.heap.size) 2 _ _ hblk
          have f3 := frozen_of_row w2 (w.heap.size) 3 _ _ hblk
          have HBx := Lib.hid hBx
          clear hB hblk hBx
          go_wp2_with fail
          refine bodyPost_ret (v := .tuple #[.agg #[.int .i64 0, .int .i64 0, .string ⟨#[]⟩, .int .u32 0], .int .i64 101]) (by simp [results, Tryz.results52, go_sem, *]) rfl ⟨by rw [extract_zero]; rfl, ?_⟩
          have hBx := HBx.out
          repeat (first | exact hBx | refine Below.setCell ?_ ?_ _ | refine Below.drew ?_ | refine Below.alloc ?_ ?_ _ | exact Below.refl _ _)
          all_goals first | omega | (simp; omega) | simp
        · rw [if_neg hz] at hR
          subst hR
          have hr0 : r.toList.isEmpty = false := isEmpty_of (by omega)
          clear hrs hz
          go_enter Tryz.func52, Tryz.ntmps52
          go_wp2_with fail
          refine C0.out.mono ?_
          rintro e w2 ⟨rfl, rfl⟩
          go_wp2_with fail
          refine C1.out.mono ?_
          rintro e w2 ⟨rfl, rfl⟩
          go_wp2_with fail
          refine Cd.out.mono ?_
          rintro e w2 ⟨rfl, rfl⟩
          go_wp2_with fail
          refine Cl.out.mono ?_
          rintro e w2 ⟨rfl, rfl⟩
          go_wp2_with fail
          refine C2.out.mono ?_
          rintro e w2 ⟨rfl, hB⟩
          obtain ⟨hblk, hsz, hBx⟩ := var_later w hB
          have k0 : w2.cell? ⟨w.heap.size, 0, none⟩ = some (.int .i64 0) := cell_of_row w2 _ 0 _ _ _ hblk
          have k1 : w2.cell? ⟨w.heap.size, 1, none⟩ = some (.int .i64 0) := cell_of_row w2 _ 1 _ _ _ hblk
          have k2 : w2.cell? ⟨w.heap.size, 2, none⟩ = some (.string ⟨#[]⟩) := cell_of_row w2 _ 2 _ _ _ hblk
          have k3 : w2.cell? ⟨w.heap.size, 3, none⟩ = some (.int .u32 0) := cell_of_row w2 _ 3 _ _ _ hblk
          have f0 := frozen_of_row w2 (w.heap.size) 0 _ _ hblk
          have f1 := frozen_of_row w2 (w.heap.size) 1 _ _ hblk
          have f2 := frozen_of_row w2 (w.heap.size) 2 _ _ hblk
          have f3 := frozen_of_row w2 (w.heap.size) 3 _ _ hblk
          have HBx := Lib.hid hBx
          clear hB hblk hBx
          go_wp2_with fail
          refine bodyPost_ret (v := .tuple #[.agg #[.int .i64 5, .int .i64 0, .string r, .int .u32 0], .int .i64 0]) (by simp [results, Tryz.results52, go_sem, *]) rfl ⟨by rw [← Hr.out]; rfl, ?_⟩
          have hBx := HBx.out
          repeat (first | exact hBx | refine Below.setCell ?_ ?_ _ | refine Below.drew ?_ | refine Below.alloc ?_ ?_ _ | exact Below.refl _ _)
          all_goals first | omega | (simp; omega) | simp
end Go.Proofs.YtffkaphbgfdpaaaGreatDoor.L
end

section
/- Lists of tokens: what Lex gives; SameTokens, SpoilTokens. -/
namespace Go.Proofs.YtffkaphbgfdpaaaGreatDoor.L
open Go.RowKit Go.Shelf
set_option linter.unusedVariables false
set_option maxRecDepth 100000
set_option linter.unusedSimpArgs false

/-- A token. -/
structure Tk where
  kind : Int
  at0 : Int
  text : ByteArray
  n : Int
deriving DecidableEq
def encT (t : Tk) : List Value := [.int .i64 t.kind, .int .i64 t.at0, .string t.text, .int .u32 t.n]
theorem encT_ok : EncOk 4 encT := ⟨fun _ => rfl, fun a v hv => by
  simp only [encT, List.mem_cons, List.not_mem_nil, or_false] at hv
  rcases hv with rfl | rfl | rfl | rfl <;> rfl, by decide⟩
abbrev markT : Tk := ⟨77, -7, ⟨#[]⟩, 0⟩
theorem tkInfos : (Tryz.prog.info? 83).map (fun i => (i.zero, i.size, i.bytes)) = some (some (.agg #[.int .i64 0, .int .i64 0, .string ⟨#[]⟩, .int .u32 0]), 4, 40) := by kernel_rfl
theorem run_equalIn_tk (w : World) (x y : Tk) : (Op.equalIn 10000 83 (.agg #[.int .i64 x.kind, .int .i64 x.at0, .string x.text, .int .u32 x.n]) (.agg #[.int .i64 y.kind, .int .i64 y.at0, .string y.text, .int .u32 y.n])).run Tryz.prog w = .ok (decide (x = y)) w := by
  rw [run_equalIn_struct w 9999 _ _ _ Tryz.underlying83 Tryz.stoodInHeld83]
  simp only [Program.fieldsOf, Tryz.underlying83, Op.eqFields, part, ne_eq, String.reduceEq, not_false_eq_true, if_true, Sem.run_bind, Sem.run_ite, Sem.run_pure, Result.andThen_ok]
  simp only [Tryz.isAgg3, Tryz.isAgg34, Tryz.isAgg9, Result.andThen_ok, if_true, if_false, Bool.false_eq_true, Sem.run_pure,
    List.getElem?_toArray, List.getElem?_cons_zero, List.getElem?_cons_succ, Array.getElem?_eq_getElem, run_equalIn_int w 9998 3 .i64 .i64 _ _ Tryz.underlying3, run_equalIn_int w 9998 34 .u32 .u32 _ _ Tryz.underlying34, run_equalIn_string w 9998 9 _ _ Tryz.underlying9]
  have he : ∀ p q : Int, (!p == q) = true ↔ ¬ p = q := fun p q => by simp
  have hl : (!x.text.toList == y.text.toList) = true ↔ ¬ x.text = y.text := by
    simp only [Bool.not_eq_true', beq_eq_false_iff_ne, ne_eq, ByteArray.toList_eq]
    constructor
    · intro h e
      exact h (by rw [e])
    · intro h e
      exact h (ByteArray.ext (Array.toList_inj.1 e))
  simp only [he, hl]
  obtain ⟨a1, a2, a3, a4⟩ := x
  obtain ⟨c1, c2, c3, c4⟩ := y
  simp only [Tk.mk.injEq]
  by_cases h1 : a1 = c1
  case neg => simp [h1]
  by_cases h2 : a2 = c2
  case neg => simp [h2]
  by_cases h3 : a3 = c3
  case neg => simp [h3]
  by_cases h4 : a4 = c4
  case neg => simp [h4]
  simp [h1, h2, h3, h4]
/-- Are two tokens one? A name that the walk doesn't open. -/
def tkB (x y : Tk) : Bool := decide (x = y)
theorem tkB_true {x y : Tk} (h : tkB x y = true) : x = y := of_decide_eq_true h
theorem tkB_false {x y : Tk} (h : tkB x y = false) : ¬ x = y := of_decide_eq_false h
theorem tkB_self (x : Tk) : tkB x x = true := decide_eq_true rfl
section
variable (w : World) (a b n a' b' n' : Int) (t t' : ByteArray)
@[go_sem high] theorem run_eql_tk : (binOp .eql 83 (.agg #[.int .i64 a, .int .i64 b, .string t, .int .u32 n]) (.agg #[.int .i64 a', .int .i64 b', .string t', .int .u32 n'])).run Tryz.prog w = .ok (.bool (tkB ⟨a, b, t, n⟩ ⟨a', b', t', n'⟩)) w := by
  rw [run_eql_struct, run_equalIn_tk w ⟨a, b, t, n⟩ ⟨a', b', t', n'⟩]
  rfl
@[go_sem high] theorem run_neq_tk : (binOp .neq 83 (.agg #[.int .i64 a, .int .i64 b, .string t, .int .u32 n]) (.agg #[.int .i64 a', .int .i64 b', .string t', .int .u32 n'])).run Tryz.prog w = .ok (.bool (!tkB ⟨a, b, t, n⟩ ⟨a', b', t', n'⟩)) w := by
  rw [run_neq_struct, run_equalIn_tk w ⟨a, b, t, n⟩ ⟨a', b', t', n'⟩]
  rfl
end
theorem tk_cells {w : World} {b o i : Nat} {xs : List Tk} {x : Tk} (h : Rs encT w (some ⟨b, o, none⟩) xs) (hi : xs[i]? = some x) :
    w.cell? ⟨b, o + i * 4, none⟩ = some (.int .i64 x.kind) ∧ w.cell? ⟨b, o + i * 4 + 1, none⟩ = some (.int .i64 x.at0) ∧ w.cell? ⟨b, o + i * 4 + 2, none⟩ = some (.string x.text) ∧ w.cell? ⟨b, o + i * 4 + 3, none⟩ = some (.int .u32 x.n) :=
  ⟨h.cell encT_ok hi (j := 0) rfl, h.cell encT_ok hi (j := 1) rfl, h.cell encT_ok hi (j := 2) rfl, h.cell encT_ok hi (j := 3) rfl⟩
theorem belowN {B : Nat} {a w : World} (h : Below B a w) (n : Nat) : Below B a (w.drewN n) := h.trans ⟨rfl, rfl, rfl, Nat.le_refl _, fun _ _ => rfl⟩
theorem tk_eta (x : Tk) : (⟨x.kind, x.at0, x.text, x.n⟩ : Tk) = x := rfl
/-- The cells of one token's room. -/
theorem room_cells {w : World} {g n i : Nat} (h : Room 4 83 w g n) (hi : i < n) : ∃ v0 v1 v2 v3, w.cell? ⟨g, i * 4, none⟩ = some v0 ∧ w.cell? ⟨g, i * 4 + 1, none⟩ = some v1 ∧ w.cell? ⟨g, i * 4 + 2, none⟩ = some v2 ∧ w.cell? ⟨g, i * 4 + 3, none⟩ = some v3 ∧
    w.frozen? ⟨g, i * 4, none⟩ = false ∧ w.frozen? ⟨g, i * 4 + 1, none⟩ = false ∧ w.frozen? ⟨g, i * 4 + 2, none⟩ = false ∧ w.frozen? ⟨g, i * 4 + 3, none⟩ = false := by
  have ht := h.there hi
  obtain ⟨a0, b0⟩ := ht 0 (by decide)
  obtain ⟨a1, b1⟩ := ht 1 (by decide)
  obtain ⟨a2, b2⟩ := ht 2 (by decide)
  obtain ⟨a3, b3⟩ := ht 3 (by decide)
  obtain ⟨v0, a0⟩ := Option.isSome_iff_exists.1 a0
  obtain ⟨v1, a1⟩ := Option.isSome_iff_exists.1 a1
  obtain ⟨v2, a2⟩ := Option.isSome_iff_exists.1 a2
  obtain ⟨v3, a3⟩ := Option.isSome_iff_exists.1 a3
  exact ⟨v0, v1, v2, v3, a0, a1, a2, a3, b0, b1, b2, b3⟩
theorem room_set4 {w : World} {g n b o1 o2 o3 o4 : Nat} {a1 a2 a3 a4 : Value} (h : Room 4 83 w g n) : Room 4 83 ((((w.setCell ⟨b, o1, none⟩ a1).setCell ⟨b, o2, none⟩ a2).setCell ⟨b, o3, none⟩ a3).setCell ⟨b, o4, none⟩ a4) g n :=
  room_setCell (room_setCell (room_setCell (room_setCell h _ _ _) _ _ _) _ _ _) _ _ _
theorem grown_set4 (w : World) {b o1 o2 o3 o4 : Nat} {a1 a2 a3 a4 : Value} : w.grownBy ((((w.setCell ⟨b, o1, none⟩ a1).setCell ⟨b, o2, none⟩ a2).setCell ⟨b, o3, none⟩ a3).setCell ⟨b, o4, none⟩ a4) (some b) :=
  World.grownBy.trans (World.grownBy.trans (World.grownBy.trans (grown_setCell w b o1 a1) (grown_setCell _ b o2 a2)) (grown_setCell _ b o3 a3)) (grown_setCell _ b o4 a4)
end Go.Proofs.YtffkaphbgfdpaaaGreatDoor.L
end

section
/- What Lex gives, in plain Lean. -/
namespace Go.Proofs.YtffkaphbgfdpaaaGreatDoor.L
open Go.RowKit Go.Shelf
set_option linter.unusedVariables false
set_option maxRecDepth 100000
set_option linter.unusedSimpArgs false

abbrev LexR := Except (Nat × Int) (List Tk)
def preL (ts : List Tk) : LexR → LexR
  | .ok us => .ok (ts ++ us)
  | .error e => .error e
theorem preL_nil (r : LexR) : preL [] r = r := by cases r <;> rfl
theorem preL_append (a b : List Tk) (r : LexR) : preL (a ++ b) r = preL a (preL b r) := by
  cases r with
  | ok us => show Except.ok _ = Except.ok _; rw [List.append_assoc]
  | error e => rfl
/-- The token that is ahead, at its place. -/
def tkAt (l : List UInt8) (at0 : Nat) : Tk := ⟨(tokR l).kind, at0, ⟨(l.take (tokR l).len).toArray⟩, (tokR l).n⟩
def lexF : Nat → List UInt8 → Nat → LexR
  | 0, _, at0 => .error (at0, 0)
  | f + 1, [], at0 => .ok [⟨0, at0, ⟨#[]⟩, 0⟩]
  | f + 1, b :: l, at0 => if blankB (b.toNat : Int) then lexF f l (at0 + 1)
    else if (tokR (b :: l)).err ≠ 0 then .error (at0, (tokR (b :: l)).err)
    else preL [tkAt (b :: l) at0] (lexF f ((b :: l).drop (tokR (b :: l)).len) (at0 + (tokR (b :: l)).len))
def lexL (l : List UInt8) (at0 : Nat) : LexR := lexF (l.length + 1) l at0
theorem runN_pos {p : Int → Bool} {b : UInt8} {l : List UInt8} (h : p (b.toNat : Int) = true) : 1 ≤ runN p (b :: l) := by
  rw [runN_cons, if_pos h]
  omega
theorem word_digit {c : Int} (h : digitB c = true) : wordB c = true ∧ quadB c = true ∧ sixB c = true := by
  unfold wordB quadB sixB hexB
  rw [h]
  exact ⟨rfl, rfl, rfl⟩
theorem word_letter {c : Int} (h : letterB c = true) : wordB c = true := by
  unfold wordB
  rw [h, Bool.or_true]
theorem tokR_len {b : UInt8} {l : List UInt8} (h : (tokR (b :: l)).err = 0) : 1 ≤ (tokR (b :: l)).len ∧ (tokR (b :: l)).len ≤ l.length + 1 := by
  have hh : hdI (b :: l) = (b.toNat : Int) := rfl
  have le : ∀ p, runN p (b :: l) ≤ l.length + 1 := fun p => runN_le p (b :: l)
  unfold tokR at h ⊢
  rw [hh] at h ⊢
  split
  · rename_i h2
    have h3 : ((b :: l).take (runN sixB (b :: l))).count 58 ≤ ((b :: l).take (runN sixB (b :: l))).length := List.count_le_length
    rw [List.length_take] at h3
    exact ⟨by show 1 ≤ runN sixB (b :: l); omega, le _⟩
  · rename_i h2
    rw [if_neg h2] at h
    split
    · rename_i hd
      rw [if_pos hd] at h
      obtain ⟨w1, w2, w3⟩ := word_digit hd
      unfold figR at h ⊢
      split
      · exact ⟨runN_pos w2, le _⟩
      · rename_i h4
        rw [if_neg h4] at h
        split
        · exact ⟨runN_pos w1, le _⟩
        · rename_i h5
          rw [h5] at h
          cases h
    · rename_i hd
      rw [if_neg hd] at h
      split
      · rename_i hl
        exact ⟨runN_pos (word_letter hl), le _⟩
      · rename_i hl
        rw [if_neg hl] at h
        split
        · rename_i hz
          rw [if_pos hz] at h
          cases h
        · rename_i hz
          exact ⟨by show 1 ≤ signN (b :: l); omega, (signN_le (b :: l)).2⟩
theorem lexF_fuel : ∀ (f g : Nat) (l : List UInt8) (at0 : Nat), l.length < f → l.length < g → lexF f l at0 = lexF g l at0
  | 0, _, _, _, h, _ => by cases h
  | _ + 1, 0, _, _, _, h => by cases h
  | f + 1, g + 1, [], at0, _, _ => rfl
  | f + 1, g + 1, b :: l, at0, hf, hg => by
    unfold lexF
    rw [List.length_cons] at hf hg
    rw [lexF_fuel f g l (at0 + 1) (by omega) (by omega)]
    by_cases he : (tokR (b :: l)).err = 0
    · have hl := tokR_len he
      rw [lexF_fuel f g ((b :: l).drop (tokR (b :: l)).len) _ (by rw [List.length_drop, List.length_cons]; omega) (by rw [List.length_drop, List.length_cons]; omega)]
    · rw [if_pos he, if_pos he]
theorem lexL_nil (at0 : Nat) : lexL [] at0 = .ok [⟨0, at0, ⟨#[]⟩, 0⟩] := rfl
theorem lexL_blank {b : UInt8} {l : List UInt8} {at0 : Nat} (h : blankB (b.toNat : Int) = true) : lexL (b :: l) at0 = lexL l (at0 + 1) := by
  unfold lexL
  rw [List.length_cons]
  conv => lhs; unfold lexF
  rw [if_pos h]
theorem lexL_bad {b : UInt8} {l : List UInt8} {at0 : Nat} (h : blankB (b.toNat : Int) = false) (he : (tokR (b :: l)).err ≠ 0) : lexL (b :: l) at0 = .error (at0, (tokR (b :: l)).err) := by
  unfold lexL
  rw [List.length_cons]
  unfold lexF
  rw [if_neg (by rw [h]; simp), if_pos he]
theorem lexL_tok {b : UInt8} {l : List UInt8} {at0 : Nat} (h : blankB (b.toNat : Int) = false) (he : (tokR (b :: l)).err = 0) : lexL (b :: l) at0 = preL [tkAt (b :: l) at0] (lexL ((b :: l).drop (tokR (b :: l)).len) (at0 + (tokR (b :: l)).len)) := by
  unfold lexL
  rw [List.length_cons]
  conv => lhs; unfold lexF
  rw [if_neg (by rw [h]; simp), if_neg (by rw [he]; simp)]
  have hl := tokR_len he
  rw [lexF_fuel (l.length + 1) (((b :: l).drop (tokR (b :: l)).len).length + 1) _ _ (by rw [List.length_drop, List.length_cons]; omega) (by omega)]
/-- What Lex gives. -/
def lexS (s : ByteArray) : LexR := if 65536 < s.size then .error (0, 100) else lexL s.data.toList 0
/-- In memory. -/
def LexPost (w : World) (R : LexR) (e : Ending) (w' : World) : Prop := Below w.heap.size w w' ∧ match R with
  | .error p => e = .returned (.tuple #[.slice none 0 0, .int .i64 p.1, .int .i64 p.2])
  | .ok ts => ∃ g cap, e = .returned (.tuple #[.slice (some ⟨g, 0, none⟩) ts.length cap, .int .i64 0, .int .i64 0]) ∧ OwnG 4 encT 83 w' w.heap.size (.slice (some ⟨g, 0, none⟩) ts.length cap) ts
theorem extract_take (s : ByteArray) (a n : Nat) : s.extract a (a + n) = ⟨((s.data.toList.drop a).take n).toArray⟩ := by
  apply ByteArray.ext
  apply Array.toList_inj.1
  rw [extract_list]
  simp
end Go.Proofs.YtffkaphbgfdpaaaGreatDoor.L
end

section
/- What is ahead, as the document says it: one token. -/
namespace Go.Proofs.YtffkaphbgfdpaaaGreatDoor.L
open Go.RowKit Go.Shelf
set_option linter.unusedVariables false
set_option maxRecDepth 100000
set_option linter.unusedSimpArgs false

end Go.Proofs.YtffkaphbgfdpaaaGreatDoor.L
end

section
/- Lex: the compiler's and the document's. -/
namespace Go.Proofs.YtffkaphbgfdpaaaGreatDoor.L
open Go.RowKit Go.Shelf
set_option linter.unusedVariables false
set_option maxRecDepth 100000
set_option linter.unusedSimpArgs false

theorem var_kept (w2 : World) {wr w3 : World} {c1 c2 : Array Value} {t : TypeId} {base sz n : Nat} {ty : TypeId} {v : Value} {xs : List Value} (hown : wr.ownsRow base ty sz v n xs) (hs : wr.heap.size ≤ w2.heap.size)
    (hg : ((w2.alloc (.cells c1 t)).alloc (.cells c2 t)).grownBy w3 v.ownBlock) : w3.heap[w2.heap.size]? = some (.cells c1 t (0, 0)) ∧ w2.heap.size < w3.heap.size := by
  have h1 := heap_alloc_new w2 (.cells c1 t)
  have h2 : ((w2.alloc (.cells c1 t)).alloc (.cells c2 t)).heap[w2.heap.size]? = some (.cells c1 t (0, 0)) := (Below.heap_alloc _ _ _ (by simp)).trans h1
  refine ⟨(hg.block _ (by simp; omega) ?_).trans h2, by have := hg.size; simp at this; omega⟩
  intro e
  have := (own_lt hown e.symm).2
  omega
set_option maxRecDepth 100000 in
set_option maxHeartbeats 1600000 in
theorem lex_any (s : ByteArray) (m : Int) (w : World) (hs : s.size ≤ 4611686018427387904) (hm : w.cell? ⟨0, 0, none⟩ = some (.int .i64 m)) :
    Calls Tryz.prog 33 #[.string s] w (LexPost w (lexS s)) := by
  obtain ⟨RES, hRES⟩ : ∃ R, lexS s = R := ⟨_, rfl⟩
  rw [hRES]
  unfold lexS at hRES
  by_cases hlong : 65536 < s.size
  · rw [if_pos hlong] at hRES
    subst hRES
    have i0 : (65536 : Int) < (s.size : Int) := by omega
    clear hlong hm
    go_enter Tryz.func33, Tryz.ntmps33
    go_wp2_with fail
    go_ret3
    exact ⟨Below.refl _ _, rfl⟩
  · rw [if_neg hlong] at hRES
    have i0 : ¬ (65536 : Int) < (s.size : Int) := by omega
    have hb0 : 0 < w.heap.size := World.block_lt_of_cell? w _ hm
    obtain ⟨j0, hi0, hz0, hz1, hz2⟩ := info_parts tkInfos
    have Hz0 := Lib.hid hz0
    have Hz1 := Lib.hid hz1
    have Hz2 := Lib.hid hz2
    have HRES := Lib.hid hRES
    have Hm := Lib.hid hm
    clear hz0 hz1 hz2 hRES hm hlong
    go_enter Tryz.func33, Tryz.ntmps33
    go_wp2_with fail
    go_loopg [5, 6] s.size (fun g s5 s6 wr => ∃ (at0 : Nat) (ts : List Tk), at0 + g = s.size ∧ s6 = .int .i64 at0 ∧ ts.length ≤ at0 ∧ OwnG 4 encT 83 wr w.heap.size s5 ts ∧ Below w.heap.size w wr ∧ Aside (preL ts (lexL (s.data.toList.drop at0) at0) = RES))
    case atStart => exact ⟨0, [], by omega, rfl, Nat.le_refl _, own_nil _ _ _ _, Below.refl _ _, by rw [preL_nil]; exact HRES.out⟩
    case round =>
      obtain ⟨at0, ts, hg, rfl, hlen, hown, hB, hA⟩ := hrel
      have HO := Lib.hid hown
      have HB := Lib.hid hB
      have HS := Lib.hid hB.size
      obtain ⟨A5, c5, e5, -⟩ := hown.rs encT_ok
      subst e5
      have hs5 : s.size ≤ 65536 := by omega
      have a0 : (0 : Int) ≤ (at0 : Int) := by omega
      clear hown hB
      cases gk with
      | zero =>
        have hat : at0 = s.size := by omega
        have a1 : ¬ (at0 : Int) < (s.size : Int) := by omega
        have hR : RES = .ok (ts ++ [⟨0, (s.size : Int), ⟨#[]⟩, 0⟩]) := by
          rw [← hA.out, hat, List.drop_of_length_le (by rw [size_list]; omega), lexL_nil]
          rfl
        have HR := Lib.hid hR
        have Hat := Lib.hid hat
        have HO2 := Lib.hid (show (wr.alloc (.cells (flatG encT [⟨0, (s.size : Int), ⟨#[]⟩, 0⟩]).toArray 83)).ownsRow w.heap.size 83 4 (.slice A5 ts.length c5) ts.length (flatG encT ts) from own_below HO.out ((Below.refl _ wr).alloc (Nat.le_refl _) _))
        have hx := heap_alloc_new wr (.cells (flatG encT [(⟨0, (s.size : Int), ⟨#[]⟩, 0⟩ : Tk)]).toArray 83)
        have Hx := Lib.hid (rs_news hx)
        clear hat hR hx
        go_wp2_with (at_builtin; refine wpList_append_lies _ rfl _ _ 71 rfl w.heap.size 83 j0 (.agg #[.int .i64 0, .int .i64 0, .string ⟨#[]⟩, .int .u32 0]) 4 40 Tryz.underlying71 hi0 Hz0.out Hz1.out Hz2.out rfl (by decide) (.slice A5 ts.length c5) ts.length (flatG encT ts) rfl HO2.out ⟨wr.heap.size, 0, none⟩ 1 1 (flatG encT [⟨0, (s.size : Int), ⟨#[]⟩, 0⟩]) rfl rfl Hx.out (flatG_one encT_ok _) (by decide) (by simp only [maxLen]; omega) (by omega) (by have := HS.out; simp; omega) (wr.heap.size + 1) (by simp) ?_; intro g2 cap w2 hown2 hgrow hat hlt)
        go_ret3
        rw [HR.out]
        refine ⟨(HB.out.alloc HS.out _).grown hgrow (by have := HS.out; simp; omega) (fun k e => (own_lt HO.out e).1), g2, cap, by rw [List.length_append]; rfl, ?_⟩
        unfold OwnG
        rw [List.length_append, flatG_append]
        exact hown2
      | succ g =>
        have hlt : at0 < s.size := by omega
        have a1 : (at0 : Int) < (s.size : Int) := by omega
        have a2 : (at0 : Int) ≤ (s.size : Int) := by omega
        have hA2 := hA.out
        rw [drop_byte hlt] at hA2
        have HA := Lib.hid hA2
        clear hA2 hA
        obtain ⟨b, hb⟩ : ∃ b, blankB (s[at0].toNat : Int) = b := ⟨_, rfl⟩
        have cb := blank_any (s[at0].toNat : Int) wr
        rw [hb] at cb
        have Cb := Lib.hid cb
        have Hb := Lib.hid hb
        clear cb hb
        cases b with
        | true =>
          go_wp2_with fail
          refine Cb.out.mono ?_
          rintro e w2 ⟨rfl, rfl⟩
          go_wp2_with fail
          go_roundg g
          case measure => omega
          case rel => exact ⟨at0 + 1, ts, by omega, by go_num, by omega, HO.out, HB.out, by
              show _ = _
              rw [← HA.out, lexL_blank Hb.out]⟩
        | false =>
          have hmr : wr.cell? ⟨0, 0, none⟩ = some (.int .i64 m) := (HB.out.cell (p := ⟨0, 0, none⟩) hb0).trans Hm.out
          have hlen3 : (tokR (s[at0] :: s.data.toList.drop (at0 + 1))).err = 0 → 1 ≤ (tokR (s[at0] :: s.data.toList.drop (at0 + 1))).len ∧ (tokR (s[at0] :: s.data.toList.drop (at0 + 1))).len ≤ s.size - at0 := fun h => by
            have h1 := tokR_len h
            rw [List.length_drop, size_list] at h1
            omega
          have htl : (s.extract at0 s.size).data.toList = s.data.toList.drop at0 := by
            rw [extract_list, List.take_of_length_le (by rw [List.length_drop, size_list]; omega)]
          have hte : (s.extract at0 s.size).extract 0 (tokR (s.data.toList.drop at0)).len = s.extract at0 (at0 + (tokR (s.data.toList.drop at0)).len) := by
            apply ByteArray.ext
            apply Array.toList_inj.1
            rw [take_extract, htl, extract_list]
            congr 1
            omega
          have ct := token_any (s.extract at0 s.size) m wr (by rw [ByteArray.size_extract]; omega) (by rw [ByteArray.size_extract]; omega) hmr
          rw [htl, hte] at ct
          clear htl hte
          obtain ⟨l, hl⟩ : ∃ l, s.data.toList.drop (at0 + 1) = l := ⟨_, rfl⟩
          rw [← drop_byte hlt] at hlen3
          obtain ⟨R, hR⟩ : ∃ R, tokR (s.data.toList.drop at0) = R := ⟨_, rfl⟩
          rw [hR] at ct hlen3
          have hRt := extract_take s at0 R.len
          obtain ⟨t, ht⟩ : ∃ t, s.extract at0 (at0 + R.len) = t := ⟨_, rfl⟩
          rw [ht] at ct hRt
          have hts : R.len ≤ s.size - at0 → t.size = R.len := fun h => by
            rw [← ht, ByteArray.size_extract]
            omega
          have Ct := Lib.hid ct
          have HRt := Lib.hid hRt
          have Hts := Lib.hid hts
          have HR := Lib.hid hR
          have HL3 := Lib.hid hlen3
          clear ct hmr hRt hts hR ht hl hlen3
          obtain ⟨e1, k1, n1, v1⟩ := R
          by_cases he : e1 = 0
          · subst he
            have hl3 := HL3.out rfl
            obtain ⟨l1, l2⟩ := hl3
            have hts := Hts.out l2
            have l3 : (t.size : Int) = (n1 : Int) := by show (t.size : Int) = (n1 : Int); rw [hts]
            have l4 : 1 ≤ t.size ∧ at0 + t.size ≤ s.size := by
              have : t.size = n1 := hts
              have l2 : n1 ≤ s.size - at0 := l2
              have l1 : 1 ≤ n1 := l1
              omega
            obtain ⟨l5, l6⟩ := l4
            have Hl3 := Lib.hid l3
            clear l3 hts l1 l2
            have hnext : preL (ts ++ [⟨k1, (at0 : Int), t, v1⟩]) (lexL (s.data.toList.drop (at0 + t.size)) (at0 + t.size)) = RES := by
              rw [← HA.out, preL_append, ← drop_byte hlt]
              have hd := drop_byte hlt
              have hR := HR.out
              rw [hd] at hR ⊢
              rw [lexL_tok Hb.out (by rw [hR])]
              have e2 : tkAt (s[at0] :: s.data.toList.drop (at0 + 1)) at0 = ⟨k1, (at0 : Int), t, v1⟩ := by
                unfold tkAt
                rw [hR]
                have h1 := HRt.out
                rw [hd] at h1
                rw [h1]
              have e3 : t.size = n1 := by have := Hl3.out; omega
              rw [e2, hR, e3]
              show preL ts (preL _ (lexL (s.data.toList.drop (at0 + n1)) (at0 + n1))) = preL ts (preL _ (lexL ((s[at0] :: s.data.toList.drop (at0 + 1)).drop n1) (at0 + n1)))
              rw [← hd, List.drop_drop]
            have HN := Lib.hid hnext
            clear hnext
            unfold tokV at Ct
            go_wp2_with fail
            refine Cb.out.mono ?_
            rintro e w2 ⟨rfl, rfl⟩
            go_wp2_with fail
            refine Ct.out.mono ?_
            rintro e w2 ⟨rfl, hB2⟩
            have hS2 := hB2.size
            have HB2 := Lib.hid hB2
            have HS2 := Lib.hid hS2
            clear hB2 hS2
            obtain ⟨W, hW⟩ : ∃ W, w2.alloc (.cells #[.int .i64 k1, .int .i64 at0, .string t, .int .u32 v1] 83) = W := ⟨_, rfl⟩
            have HW := Lib.hid hW
            have HBW : Hid (Below wr.heap.size wr W) := Lib.hid (by rw [← hW]; exact HB2.out.alloc HS2.out _)
            have HO2 := Lib.hid (show ((w2.alloc (.cells #[.int .i64 k1, .int .i64 at0, .string t, .int .u32 v1] 83)).alloc (.cells (flatG encT [⟨k1, (at0 : Int), t, v1⟩]).toArray 83)).ownsRow w.heap.size 83 4 (.slice A5 ts.length c5) ts.length (flatG encT ts) from own_below HO.out ((HB2.out.alloc HS2.out _).alloc (by have := HS2.out; simp; omega) _))
            have hx := heap_alloc_new (w2.alloc (.cells #[.int .i64 k1, .int .i64 at0, .string t, .int .u32 v1] 83)) (.cells (flatG encT [(⟨k1, (at0 : Int), t, v1⟩ : Tk)]).toArray 83)
            have hx2 := rs_news hx
            rw [show (w2.alloc (.cells #[.int .i64 k1, .int .i64 at0, .string t, .int .u32 v1] 83)).heap.size = w2.heap.size + 1 from by simp] at hx2
            have Hx := Lib.hid hx2
            clear hx hx2 hW HBW HW
            go_wp2_with (at_builtin; refine wpList_append_lies _ rfl _ _ 71 rfl w.heap.size 83 j0 (.agg #[.int .i64 0, .int .i64 0, .string ⟨#[]⟩, .int .u32 0]) 4 40 Tryz.underlying71 hi0 Hz0.out Hz1.out Hz2.out rfl (by decide) (.slice A5 ts.length c5) ts.length (flatG encT ts) rfl HO2.out ⟨w2.heap.size + 1, 0, none⟩ 1 1 (flatG encT [⟨k1, (at0 : Int), t, v1⟩]) rfl rfl Hx.out (flatG_one encT_ok _) (by decide) (by simp only [maxLen]; omega) (by omega) (by have := HS.out; have := HS2.out; simp; omega) (w2.heap.size + 2) (by simp) ?_; intro g2 cap w3 hown2 hgrow hat hlt)
            go_roundg (g + 1 - t.size)
            case measure => omega
            case rel => exact ⟨at0 + t.size, ts ++ [(⟨k1, (at0 : Int), t, v1⟩ : Tk)], by omega, by go_num, by rw [List.length_append]; show ts.length + 1 ≤ _; omega, by
                unfold OwnG
                rw [List.length_append, flatG_append]
                exact hown2, (HB.out.trans ((HB2.out.alloc HS2.out _).mono HS.out)).trans (((Below.refl _ _).alloc (by have := HS.out; have := HS2.out; simp; omega) _).grown hgrow (by have := HS.out; have := HS2.out; simp; omega) (fun k e => (own_lt HO.out e).1)), by show _ = _; exact HN.out⟩
          · have hR : RES = .error (at0, e1) := by
              rw [← HA.out]
              have hd := drop_byte hlt
              have hR := HR.out
              rw [hd] at hR
              rw [lexL_bad Hb.out (by rw [hR]; exact he), hR]
              rfl
            have HRe := Lib.hid hR
            have he2 : (e1 == 0) = false := by simpa using he
            clear hR he
            unfold tokV at Ct
            go_wp2_with fail
            refine Cb.out.mono ?_
            rintro e w2 ⟨rfl, rfl⟩
            go_wp2_with fail
            refine Ct.out.mono ?_
            rintro e w2 ⟨rfl, hB2⟩
            have hS2 := hB2.size
            have HB2 := Lib.hid hB2
            have HS2 := Lib.hid hS2
            clear hB2 hS2
            go_wp2_with fail
            go_ret3
            rw [HRe.out]
            exact ⟨(HB.out.trans (HB2.out.mono HS.out)).alloc (by have := HS.out; have := HS2.out; omega) _, rfl⟩
end Go.Proofs.YtffkaphbgfdpaaaGreatDoor.L
end

section
/- riddlelaw10.awake: it answers true. -/
namespace Go.Proofs.YtffkaphbgfdpaaaGreatDoor.L
open Go.RowKit Go.Shelf
set_option linter.unusedVariables false
set_option maxRecDepth 100000
set_option linter.unusedSimpArgs false

def awake1 : ByteArray := ⟨#[105, 112, 60, 61, 48, 120, 48, 102]⟩
def awake2 : ByteArray := ⟨#[97, 32, 59]⟩
theorem lex_awake1 : lexS awake1 = .ok [⟨2, 0, ⟨#[105, 112]⟩, 0⟩, ⟨5, 2, ⟨#[60, 61]⟩, 0⟩, ⟨1, 4, ⟨#[48, 120, 48, 102]⟩, 15⟩, ⟨0, 8, ⟨#[]⟩, 0⟩] := by kernel_rfl
theorem lex_awake2 : lexS awake2 = .error (2, 101) := by kernel_rfl
theorem LexPost.bad {w : World} {R : LexR} {p : Nat × Int} {e : Ending} {w' : World} (h : LexPost w R e w') (hR : R = .error p) : e = .returned (.tuple #[.slice none 0 0, .int .i64 p.1, .int .i64 p.2]) ∧ Below w.heap.size w w' := by
  subst hR
  exact ⟨h.2, h.1⟩
theorem LexPost.good {w : World} {R : LexR} {ts : List Tk} {e : Ending} {w' : World} (h : LexPost w R e w') (hR : R = .ok ts) : ∃ g cap, e = .returned (.tuple #[.slice (some ⟨g, 0, none⟩) ts.length cap, .int .i64 0, .int .i64 0]) ∧ OwnG 4 encT 83 w' w.heap.size (.slice (some ⟨g, 0, none⟩) ts.length cap) ts ∧ Below w.heap.size w w' := by
  subst hR
  obtain ⟨h1, g, cap, h2, h3⟩ := h
  exact ⟨g, cap, h2, h3, h1⟩
theorem max_later {w W : World} {m : Int} (hm : w.cell? ⟨0, 0, none⟩ = some (.int .i64 m)) (hB : Below w.heap.size w W) : W.cell? ⟨0, 0, none⟩ = some (.int .i64 m) :=
  (hB.cell (p := ⟨0, 0, none⟩) (World.block_lt_of_cell? w _ hm)).trans hm
end Go.Proofs.YtffkaphbgfdpaaaGreatDoor.L
end

section
/- LexTokens: the walk. -/
namespace Go.Proofs.YtffkaphbgfdpaaaGreatDoor.L
open Go.RowKit Go.Shelf
set_option linter.unusedVariables false
set_option maxRecDepth 100000
set_option linter.unusedSimpArgs false

theorem lexF_length : ∀ (f : Nat) (l : List UInt8) (at0 : Nat) (ts : List Tk), lexF f l at0 = .ok ts → ts.length ≤ l.length + 1 ∧ 0 < ts.length
  | 0, _, _, _, h => by cases h
  | f + 1, [], at0, ts, h => by cases h; exact ⟨Nat.le_refl _, Nat.succ_pos _⟩
  | f + 1, b :: l, at0, ts, h => by
    unfold lexF at h
    split at h
    · have := lexF_length f l _ ts h
      rw [List.length_cons]
      omega
    · split at h
      · cases h
      · rename_i he
        have he : (tokR (b :: l)).err = 0 := by simpa using he
        have hl := tokR_len he
        cases hr : lexF f ((b :: l).drop (tokR (b :: l)).len) (at0 + (tokR (b :: l)).len) with
        | error e => rw [hr] at h; cases h
        | ok us =>
          rw [hr] at h
          have h := Except.ok.inj h
          subst h
          have := lexF_length f _ _ us hr
          rw [List.length_drop, List.length_cons] at this
          rw [List.length_append, List.length_cons, List.length_cons, List.length_nil]
          omega
theorem lexS_length {s : ByteArray} {ts : List Tk} (h : lexS s = .ok ts) : ts.length ≤ s.size + 1 ∧ 0 < ts.length ∧ s.size ≤ 65536 := by
  unfold lexS at h
  split at h
  · cases h
  · rename_i hl
    have := lexF_length _ _ _ _ h
    rw [size_list] at this
    exact ⟨this.1, this.2, by omega⟩
theorem grown_below {w w' : World} {g base : Nat} {v : Value} (h : w.grownBy w' v.ownBlock) (hb : base ≤ w.heap.size) (hv : ∀ g, v.ownBlock = some g → base ≤ g) : Below base w w' := (Below.refl base w).grown h hb (fun k e => hv k e)
end Go.Proofs.YtffkaphbgfdpaaaGreatDoor.L
end

section
/- Plain laws of Lex: a token by itself, a blank behind it. -/
namespace Go.Proofs.YtffkaphbgfdpaaaGreatDoor.L
open Go.RowKit Go.Shelf
set_option linter.unusedVariables false
set_option maxRecDepth 100000
set_option linter.unusedSimpArgs false

theorem runN_eq_length {p : Int → Bool} : ∀ {l : List UInt8}, (∀ x ∈ l, p (x.toNat : Int) = true) → runN p l = l.length
  | [], _ => rfl
  | b :: l, h => by
    rw [runN_cons, if_pos (h b (by simp)), runN_eq_length fun x hx => h x (by simp [hx])]
    rfl
theorem run_all {p : Int → Bool} : ∀ (l : List UInt8), ∀ x ∈ l.take (runN p l), p (x.toNat : Int) = true
  | [], x, hx => by simp at hx
  | b :: l, x, hx => by
    rw [runN_cons] at hx
    split at hx
    · rename_i hb
      rw [List.take_succ_cons] at hx
      rcases List.mem_cons.1 hx with rfl | hx
      · exact hb
      · exact run_all l x hx
    · simp at hx
theorem runN_take {p : Int → Bool} (l : List UInt8) : runN p (l.take (runN p l)) = runN p l := by
  rw [runN_eq_length (run_all l), List.length_take]
  have := runN_le p l
  omega
/-- What stops a run of any kind. -/
def Stops (m : List UInt8) : Prop := ∀ c m', m = c :: m' → blankB (c.toNat : Int) = true
theorem stops_nil : Stops [] := fun _ _ h => by cases h
theorem stops_blank {c : UInt8} {m : List UInt8} (h : blankB (c.toNat : Int) = true) : Stops (c :: m) := fun _ _ e => by cases e; exact h
theorem blank_cases {c : Int} (h : blankB c = true) : c = 32 ∨ c = 9 ∨ c = 10 ∨ c = 13 := by
  unfold blankB at h
  simp at h
  omega
theorem blank_not {c : Int} (h : blankB c = true) : sixB c = false ∧ quadB c = false ∧ wordB c = false := by
  rcases blank_cases h with rfl | rfl | rfl | rfl <;> exact ⟨by decide, by decide, by decide⟩
theorem runN_behind {p : Int → Bool} {m : List UInt8} (hp : ∀ c m', m = c :: m' → p (c.toNat : Int) = false) : ∀ l : List UInt8, runN p (l ++ m) = runN p l
  | [] => by
    cases m with
    | nil => rfl
    | cons c m' =>
      show runN p (c :: m') = 0
      rw [runN_cons, if_neg (by rw [hp c m' rfl]; simp)]
  | b :: l => by
    rw [List.cons_append, runN_cons, runN_cons, runN_behind hp l]
theorem take_behind {n : Nat} {l m : List UInt8} (h : n ≤ l.length) : (l ++ m).take n = l.take n := by
  rw [List.take_append_of_le_length h]
theorem signN_behind {l m : List UInt8} (hl : l ≠ []) (hm : Stops m) : signN (l ++ m) = signN l := by
  match l, hl with
  | [b], _ =>
    match m, hm with
    | [], _ => rfl
    | c :: m', hm =>
      have h0 : twos.contains [b, c] = false := by
        have hc := hm c m' rfl
        cases h : twos.contains [b, c] with
        | false => rfl
        | true =>
          have h1 : ∀ x ∈ twos, ∀ y ∈ x.drop 1, blankB (y.toNat : Int) = false := by decide
          have h2 := h1 [b, c] (by simpa using h) c (by simp)
          rw [h2] at hc
          cases hc
      unfold signN
      rw [if_neg (by rw [show List.take 2 ([b] ++ c :: m') = [b, c] from rfl, h0]; simp), if_neg (by
        have : twos.contains (List.take 2 [b]) = false := twos_short (by simp)
        rw [this]; simp)]
      rfl
  | b :: b2 :: l, _ => rfl
theorem tokR_behind {l m : List UInt8} (hl : l ≠ []) (hm : Stops m) : tokR (l ++ m) = tokR l := by
  have h6 : runN sixB (l ++ m) = runN sixB l := runN_behind (fun c m' e => (blank_not (hm c m' e)).1) l
  have hq : runN quadB (l ++ m) = runN quadB l := runN_behind (fun c m' e => (blank_not (hm c m' e)).2.1) l
  have hw : runN wordB (l ++ m) = runN wordB l := runN_behind (fun c m' e => (blank_not (hm c m' e)).2.2) l
  have hh : hdI (l ++ m) = hdI l := by
    cases l with
    | nil => exact absurd rfl hl
    | cons b l => rfl
  unfold tokR figR
  rw [h6, hq, hw, hh, signN_behind hl hm, take_behind (runN_le _ _), take_behind (runN_le _ _), take_behind (runN_le _ _)]
theorem count_none {l : List UInt8} {c : UInt8} {p : Int → Bool} (h : ∀ x ∈ l, p (x.toNat : Int) = true) (hc : p (c.toNat : Int) = false) : l.count c = 0 := by
  rw [List.count_eq_zero]
  intro hm
  have := h c hm
  rw [hc] at this
  cases this
theorem mem_take_of {l : List UInt8} {n : Nat} {x : UInt8} (h : x ∈ l.take n) : x ∈ l := List.mem_of_mem_take h
theorem hdI_take {l : List UInt8} {n : Nat} (h : 1 ≤ n) : hdI (l.take n) = hdI l := by
  cases l with
  | nil => simp
  | cons b l =>
    obtain ⟨k, rfl⟩ : ∃ k, n = k + 1 := ⟨n - 1, by omega⟩
    rfl
theorem six_small {l : List UInt8} {p : Int → Bool} (h : ∀ x ∈ l, p (x.toNat : Int) = true) (hc : p 58 = false) : ¬ 2 ≤ (l.take (runN sixB l)).count 58 := by
  rw [count_none (c := 58) (p := p) (fun x hx => h x (mem_take_of hx)) hc]
  omega
/-- A token's text by itself is that token. -/
theorem tokR_take {l : List UInt8} (hl : l ≠ []) (he : (tokR l).err = 0) : tokR (l.take (tokR l).len) = tokR l := by
  obtain ⟨b, l0, rfl⟩ : ∃ b l0, l = b :: l0 := by
    cases l with
    | nil => exact absurd rfl hl
    | cons b l0 => exact ⟨b, l0, rfl⟩
  have hlen := tokR_len he
  generalize b :: l0 = l at *
  have hlen : 1 ≤ (tokR l).len := hlen.1
  obtain ⟨R, hR⟩ : ∃ R, tokR l = R := ⟨_, rfl⟩
  rw [hR] at hlen he ⊢
  unfold tokR at hR
  by_cases h6 : 2 ≤ (l.take (runN sixB l)).count 58
  · rw [if_pos h6] at hR
    subst hR
    show tokR (l.take (runN sixB l)) = _
    unfold tokR
    rw [runN_take, List.take_take, Nat.min_self, if_pos h6]
  · rw [if_neg h6] at hR
    by_cases hd : digitB (hdI l) = true
    · rw [if_pos hd] at hR
      unfold figR at hR
      by_cases h4 : 0 < (l.take (runN quadB l)).count 46
      · rw [if_pos h4] at hR
        subst hR
        have ha := run_all (p := quadB) l
        have hh : hdI (l.take (runN quadB l)) = hdI l := hdI_take hlen
        show tokR (l.take (runN quadB l)) = _
        unfold tokR
        rw [if_neg (six_small ha (by decide)), hh, if_pos hd]
        unfold figR
        rw [runN_take, List.take_take, Nat.min_self, if_pos h4]
      · rw [if_neg h4] at hR
        cases hn : numL (l.take (runN wordB l)) with
        | none =>
          rw [hn] at hR
          subst hR
          cases he
        | some v =>
          rw [hn] at hR
          have hR : (⟨0, 1, runN wordB l, v⟩ : TR) = R := hR
          subst hR
          have ha := run_all (p := wordB) l
          have hh : hdI (l.take (runN wordB l)) = hdI l := hdI_take hlen
          show tokR (l.take (runN wordB l)) = _
          unfold tokR
          rw [if_neg (six_small ha (by decide)), hh, if_pos hd]
          unfold figR
          rw [if_neg (by rw [count_none (c := 46) (p := wordB) (fun x hx => ha x (mem_take_of hx)) (by decide)]; omega), runN_take, List.take_take, Nat.min_self, hn]
    · rw [if_neg hd] at hR
      by_cases ht : letterB (hdI l) = true
      · rw [if_pos ht] at hR
        subst hR
        have ha := run_all (p := wordB) l
        have hh : hdI (l.take (runN wordB l)) = hdI l := hdI_take hlen
        show tokR (l.take (runN wordB l)) = _
        unfold tokR
        rw [if_neg (six_small ha (by decide)), hh, if_neg hd, if_pos ht, runN_take]
      · rw [if_neg ht] at hR
        by_cases hz : signN l = 0
        · rw [if_pos hz] at hR
          subst hR
          cases he
        · rw [if_neg hz] at hR
          subst hR
          have hh : hdI (l.take (signN l)) = hdI l := hdI_take hlen
          have hs : signN (l.take (signN l)) = signN l ∧ (l.take (signN l)).count 58 ≤ 1 := by
            by_cases h2 : twos.contains (l.take 2) = true
            · have e : signN l = 2 := by unfold signN; rw [if_pos h2]
              rw [e]
              constructor
              · unfold signN
                rw [List.take_take, Nat.min_self, if_pos h2]
              · have h1 : ∀ x ∈ twos, x.count 58 ≤ 1 := by decide
                exact h1 _ (by simpa using h2)
            · have e : signN l = 1 := by
                have h1 := signN_le l
                unfold signN at hz h1 ⊢
                rw [if_neg h2] at hz h1 ⊢
                split at hz
                · rename_i b r
                  split at hz
                  · rename_i ho
                    simp only [ho, if_true]
                  · exact absurd rfl hz
                · exact absurd rfl hz
              rw [e]
              constructor
              · unfold signN at e ⊢
                rw [if_neg h2] at e
                cases l with
                | nil => exact absurd rfl hl
                | cons b r =>
                  rw [if_neg (by
                    have : twos.contains (List.take 2 (List.take 1 (b :: r))) = false := twos_short (by simp)
                    rw [this]; simp)]
                  exact e
              · have := List.count_le_length (l := l.take 1) (a := 58)
                rw [List.length_take] at this
                omega
          show tokR (l.take (signN l)) = _
          unfold tokR
          rw [if_neg (by
            have h1 := hs.2
            have h3 : ((l.take (signN l)).take (runN sixB (l.take (signN l)))).count 58 ≤ (l.take (signN l)).count 58 := List.Sublist.count_le _ (List.take_sublist _ _)
            omega), hh, if_neg hd, if_neg ht, hs.1, if_neg hz]
end Go.Proofs.YtffkaphbgfdpaaaGreatDoor.L
end

section
/- Plain laws of Lex: lists of tokens. -/
namespace Go.Proofs.YtffkaphbgfdpaaaGreatDoor.L
open Go.RowKit Go.Shelf
set_option linter.unusedVariables false
set_option maxRecDepth 100000
set_option linter.unusedSimpArgs false

/-- A token whose text is that token. -/
structure TkOk (t : Tk) : Prop where
  ne : t.text.data.toList ≠ []
  err : (tokR t.text.data.toList).err = 0
  kind : (tokR t.text.data.toList).kind = t.kind
  len : (tokR t.text.data.toList).len = t.text.data.toList.length
  n : (tokR t.text.data.toList).n = t.n
  hd : blankB (hdI t.text.data.toList) = false
abbrev endT (at0 : Nat) : Tk := ⟨0, at0, ⟨#[]⟩, 0⟩
theorem tkAt_ok {b : UInt8} {l : List UInt8} {at0 : Nat} (h : blankB (b.toNat : Int) = false) (he : (tokR (b :: l)).err = 0) : TkOk (tkAt (b :: l) at0) := by
  have hl := tokR_len he
  have ht : (tkAt (b :: l) at0).text.data.toList = (b :: l).take (tokR (b :: l)).len := by unfold tkAt; simp
  have hn : (b :: l) ≠ [] := by simp
  have hk := tokR_take hn he
  have hh : hdI ((b :: l).take (tokR (b :: l)).len) = (b.toNat : Int) := hdI_take hl.1
  refine ⟨?_, ?_, ?_, ?_, ?_, ?_⟩
  · rw [ht]
    intro e
    have := congrArg List.length e
    rw [List.length_take, List.length_cons, List.length_nil] at this
    omega
  · rw [ht, hk]; exact he
  · rw [ht, hk]; rfl
  · rw [ht, hk, List.length_take, List.length_cons]; omega
  · rw [ht, hk]; rfl
  · rw [ht, hh]; exact h
theorem preL_ok {a : List Tk} {r : LexR} {ts : List Tk} (h : preL a r = .ok ts) : ∃ us, r = .ok us ∧ ts = a ++ us := by
  cases r with
  | error e => cases h
  | ok us => exact ⟨us, rfl, (Except.ok.inj h).symm⟩
theorem preL_err {a : List Tk} {r : LexR} {p : Nat × Int} (h : preL a r = .error p) : r = .error p := by
  cases r with
  | error e => exact h
  | ok us => cases h
/-- By the length of what is left. -/
theorem lex_ind {P : List UInt8 → Nat → Prop} (h0 : ∀ at0, P [] at0) (h1 : ∀ b l at0, blankB (b.toNat : Int) = true → P l (at0 + 1) → P (b :: l) at0)
    (h2 : ∀ b l at0, blankB (b.toNat : Int) = false → (tokR (b :: l)).err ≠ 0 → P (b :: l) at0)
    (h3 : ∀ b l at0, blankB (b.toNat : Int) = false → (tokR (b :: l)).err = 0 → P ((b :: l).drop (tokR (b :: l)).len) (at0 + (tokR (b :: l)).len) → P (b :: l) at0) : ∀ (n : Nat) (l : List UInt8) (at0 : Nat), l.length ≤ n → P l at0
  | _, [], at0, _ => h0 at0
  | 0, b :: l, at0, h => by simp at h
  | n + 1, b :: l, at0, h => by
    rw [List.length_cons] at h
    cases hb : blankB (b.toNat : Int) with
    | true => exact h1 b l at0 hb (lex_ind h0 h1 h2 h3 n l _ (by omega))
    | false =>
      by_cases he : (tokR (b :: l)).err = 0
      · have hl := tokR_len he
        exact h3 b l at0 hb he (lex_ind h0 h1 h2 h3 n _ _ (by rw [List.length_drop, List.length_cons]; omega))
      · exact h2 b l at0 hb he
theorem lexL_ok {l : List UInt8} {at0 : Nat} {ts : List Tk} : lexL l at0 = .ok ts → ∃ us, ts = us ++ [endT (at0 + l.length)] ∧ (∀ t ∈ us, TkOk t) ∧ (∀ t ∈ us, t.text.size ≤ l.length) ∧ us.length ≤ l.length ∧ (us.map fun t => t.text.size).sum ≤ l.length := by
  refine lex_ind (P := fun l at0 => ∀ ts, lexL l at0 = .ok ts → ∃ us, ts = us ++ [endT (at0 + l.length)] ∧ (∀ t ∈ us, TkOk t) ∧ (∀ t ∈ us, t.text.size ≤ l.length) ∧ us.length ≤ l.length ∧ (us.map fun t => t.text.size).sum ≤ l.length) ?_ ?_ ?_ ?_ l.length l at0 (Nat.le_refl _) ts
  · intro at0 ts h
    rw [lexL_nil] at h
    exact ⟨[], (Except.ok.inj h).symm, (fun t h => by cases h), (fun t h => by cases h), Nat.le_refl _, Nat.le_refl _⟩
  · intro b l at0 hb ih ts h
    rw [lexL_blank hb] at h
    obtain ⟨us, e, h1, h2, h3, h4⟩ := ih ts h
    rw [List.length_cons]
    exact ⟨us, by rw [e, show at0 + 1 + l.length = at0 + (l.length + 1) from by omega], h1, fun t ht => Nat.le_succ_of_le (h2 t ht), by omega, by omega⟩
  · intro b l at0 hb he ts h
    rw [lexL_bad hb he] at h
    cases h
  · intro b l at0 hb he ih ts h
    rw [lexL_tok hb he] at h
    obtain ⟨vs, hv, rfl⟩ := preL_ok h
    obtain ⟨us, e, h1, h2, h3, h4⟩ := ih vs hv
    have hl := tokR_len he
    have hsz : (tkAt (b :: l) at0).text.size = (tokR (b :: l)).len := by
      unfold tkAt
      show ((b :: l).take _).toArray.size = _
      rw [List.size_toArray, List.length_take, List.length_cons]
      omega
    refine ⟨tkAt (b :: l) at0 :: us, ?_, ?_, ?_, ?_, ?_⟩
    · rw [e, List.length_drop, List.length_cons]
      rw [show at0 + (tokR (b :: l)).len + (l.length + 1 - (tokR (b :: l)).len) = at0 + (l.length + 1) from by omega]
      rfl
    · intro t ht
      rcases List.mem_cons.1 ht with rfl | ht
      · exact tkAt_ok hb he
      · exact h1 t ht
    · intro t ht
      rcases List.mem_cons.1 ht with rfl | ht
      · rw [hsz]; exact hl.2
      · have := h2 t ht
        rw [List.length_drop] at this
        omega
    · rw [List.length_cons]
      rw [List.length_drop, List.length_cons] at h3
      rw [List.length_cons]
      omega
    · rw [List.map_cons, List.sum_cons, hsz]
      rw [List.length_drop] at h4
      rw [List.length_cons] at h4 ⊢
      omega
theorem lexL_one {t : Tk} (h : TkOk t) {m : List UInt8} (hm : Stops m) (at0 : Nat) : lexL (t.text.data.toList ++ m) at0 = preL [⟨t.kind, at0, t.text, t.n⟩] (lexL m (at0 + t.text.size)) := by
  have hb := tokR_behind h.ne hm
  obtain ⟨b, l, e⟩ : ∃ b l, t.text.data.toList = b :: l := by
    cases e : t.text.data.toList with
    | nil => exact absurd e h.ne
    | cons b l => exact ⟨b, l, rfl⟩
  have e3 : (⟨(b :: l).toArray⟩ : ByteArray) = t.text := by rw [← e]
  have E3 := Lib.hid e3
  clear e3
  have hd := h.hd
  have hlen := h.len
  have herr := h.err
  have hkind := h.kind
  have hn := h.n
  have hsz := size_list t.text
  rw [← hb] at hlen herr hkind hn
  rw [e] at hb hd hlen herr hkind hn hsz
  rw [e, List.cons_append] at *
  rw [lexL_tok (b := b) hd herr]
  have e1 : tkAt (b :: (l ++ m)) at0 = ⟨t.kind, at0, t.text, t.n⟩ := by
    unfold tkAt
    rw [hkind, hn, hlen]
    congr 1
    rw [← List.cons_append, List.take_left]
    exact E3.out
  rw [e1, hlen]
  rw [← List.cons_append, List.drop_left, hsz]
theorem lexS_one {t : Tk} (h : TkOk t) (hs : t.text.size ≤ 65536) : lexS t.text = .ok [⟨t.kind, 0, t.text, t.n⟩, endT t.text.size] := by
  unfold lexS
  rw [if_neg (by omega)]
  have := lexL_one h stops_nil 0
  rw [List.append_nil] at this
  rw [this, lexL_nil, Nat.zero_add]
  rfl
/-- Behind a blank it goes on. -/
theorem lexL_more {c : UInt8} (hc : blankB (c.toNat : Int) = true) (m : List UInt8) (l : List UInt8) (at0 : Nat) :
    (∀ p, lexL l at0 = .error p → lexL (l ++ c :: m) at0 = .error p) ∧ (∀ us e, lexL l at0 = .ok (us ++ [e]) → lexL (l ++ c :: m) at0 = preL us (lexL m (at0 + l.length + 1))) := by
  refine lex_ind (P := fun l at0 => (∀ p, lexL l at0 = .error p → lexL (l ++ c :: m) at0 = .error p) ∧ (∀ us e, lexL l at0 = .ok (us ++ [e]) → lexL (l ++ c :: m) at0 = preL us (lexL m (at0 + l.length + 1)))) ?_ ?_ ?_ ?_ l.length l at0 (Nat.le_refl _)
  · intro at0
    rw [lexL_nil, List.nil_append, lexL_blank hc]
    refine ⟨fun p h => (by cases h), fun us e h => ?_⟩
    have h := Except.ok.inj h
    cases us with
    | nil => rw [preL_nil]; rfl
    | cons u us => simp at h
  · intro b l at0 hb ih
    rw [lexL_blank hb, List.cons_append, lexL_blank hb, List.length_cons]
    rw [show at0 + (l.length + 1) + 1 = at0 + 1 + l.length + 1 from by omega]
    exact ih
  · intro b l at0 hb he
    have hk := tokR_behind (l := b :: l) (by simp) (stops_blank (m := m) hc)
    rw [List.cons_append] at hk
    rw [lexL_bad hb he, List.cons_append, lexL_bad hb (by rw [hk]; exact he), hk]
    exact ⟨fun p h => h, fun us e h => by cases h⟩
  · intro b l at0 hb he ih
    have hk := tokR_behind (l := b :: l) (by simp) (stops_blank (m := m) hc)
    have hl := tokR_len he
    rw [List.cons_append] at hk
    rw [lexL_tok hb he, List.cons_append, lexL_tok hb (by rw [hk]; exact he), hk]
    have e1 : tkAt (b :: (l ++ c :: m)) at0 = tkAt (b :: l) at0 := by
      unfold tkAt
      rw [hk, ← List.cons_append, take_behind (by rw [List.length_cons]; exact hl.2)]
    have e2 : (b :: (l ++ c :: m)).drop (tokR (b :: l)).len = (b :: l).drop (tokR (b :: l)).len ++ c :: m := by
      rw [← List.cons_append, List.drop_append_of_le_length (by rw [List.length_cons]; exact hl.2)]
    rw [e1, e2]
    refine ⟨fun p h => ?_, fun us e h => ?_⟩
    · rw [ih.1 p (preL_err h)]
      rfl
    · obtain ⟨vs, hv, hu⟩ := preL_ok h
      obtain ⟨ws, hw, -⟩ := lexL_ok hv
      rw [hw] at hv hu
      have h3 := ih.2 ws _ hv
      rw [h3]
      have hu : us ++ [e] = (tkAt (b :: l) at0 :: ws) ++ [endT (at0 + (tokR (b :: l)).len + ((b :: l).drop (tokR (b :: l)).len).length)] := hu
      have hus := List.append_inj_left' hu rfl
      rw [hus]
      rw [show at0 + (tokR (b :: l)).len + ((b :: l).drop (tokR (b :: l)).len).length + 1 = at0 + (b :: l).length + 1 from by rw [List.length_drop, List.length_cons]; omega]
      rw [← preL_append]
      rfl
/-- The place moves with the source. -/
theorem lexL_shift (l : List UInt8) (at0 : Nat) : (∀ a e, lexL l at0 = .error (a, e) → ∃ b, a = at0 + b ∧ ∀ at1, lexL l at1 = .error (at1 + b, e)) ∧ (∀ ts, lexL l at0 = .ok ts → ∀ at1, ∃ us, lexL l at1 = .ok us) := by
  refine lex_ind (P := fun l at0 => (∀ a e, lexL l at0 = .error (a, e) → ∃ b, a = at0 + b ∧ ∀ at1, lexL l at1 = .error (at1 + b, e)) ∧ (∀ ts, lexL l at0 = .ok ts → ∀ at1, ∃ us, lexL l at1 = .ok us)) ?_ ?_ ?_ ?_ l.length l at0 (Nat.le_refl _)
  · intro at0
    exact ⟨fun a e h => (by cases h), fun ts _ at1 => ⟨_, lexL_nil at1⟩⟩
  · intro b l at0 hb ih
    refine ⟨fun a e h => ?_, fun ts h at1 => ?_⟩
    · rw [lexL_blank hb] at h
      obtain ⟨k, h1, h2⟩ := ih.1 a e h
      exact ⟨k + 1, by omega, fun at1 => by rw [lexL_blank hb, h2, show at1 + 1 + k = at1 + (k + 1) from by omega]⟩
    · rw [lexL_blank hb] at h
      obtain ⟨us, hu⟩ := ih.2 ts h (at1 + 1)
      exact ⟨us, by rw [lexL_blank hb, hu]⟩
  · intro b l at0 hb he
    refine ⟨fun a e h => ?_, fun ts h at1 => ?_⟩
    · rw [lexL_bad hb he] at h
      cases h
      exact ⟨0, rfl, fun at1 => by rw [lexL_bad hb he]; rfl⟩
    · rw [lexL_bad hb he] at h
      cases h
  · intro b l at0 hb he ih
    refine ⟨fun a e h => ?_, fun ts h at1 => ?_⟩
    · rw [lexL_tok hb he] at h
      obtain ⟨k, h1, h2⟩ := ih.1 a e (preL_err h)
      exact ⟨(tokR (b :: l)).len + k, by omega, fun at1 => by rw [lexL_tok hb he, h2, show at1 + (tokR (b :: l)).len + k = at1 + ((tokR (b :: l)).len + k) from by omega]; rfl⟩
    · rw [lexL_tok hb he] at h
      obtain ⟨vs, hv, _⟩ := preL_ok h
      obtain ⟨us, hu⟩ := ih.2 vs hv (at1 + (tokR (b :: l)).len)
      exact ⟨_, by rw [lexL_tok hb he, hu]; rfl⟩
theorem lexL_err {l : List UInt8} {at0 : Nat} {p : Nat × Int} : lexL l at0 = .error p → p.2 ≠ 0 := by
  refine lex_ind (P := fun l at0 => ∀ p, lexL l at0 = .error p → p.2 ≠ 0) ?_ ?_ ?_ ?_ l.length l at0 (Nat.le_refl _) p
  · intro at0 p h
    rw [lexL_nil] at h
    cases h
  · intro b l at0 hb ih p h
    rw [lexL_blank hb] at h
    exact ih p h
  · intro b l at0 hb he p h
    rw [lexL_bad hb he] at h
    cases h
    exact he
  · intro b l at0 hb he ih p h
    rw [lexL_tok hb he] at h
    exact ih p (preL_err h)
theorem lexL_err_le {l : List UInt8} {at0 : Nat} {p : Nat × Int} : lexL l at0 = .error p → p.1 ≤ at0 + l.length := by
  refine lex_ind (P := fun l at0 => ∀ p, lexL l at0 = .error p → p.1 ≤ at0 + l.length) ?_ ?_ ?_ ?_ l.length l at0 (Nat.le_refl _) p
  · intro at0 p h
    rw [lexL_nil] at h
    cases h
  · intro b l at0 hb ih p h
    rw [lexL_blank hb] at h
    have := ih p h
    rw [List.length_cons]
    omega
  · intro b l at0 hb he p h
    rw [lexL_bad hb he] at h
    cases h
    exact Nat.le_add_right _ _
  · intro b l at0 hb he ih p h
    rw [lexL_tok hb he] at h
    have hl := tokR_len he
    have := ih p (preL_err h)
    rw [List.length_drop, List.length_cons] at this
    rw [List.length_cons]
    omega
theorem lexS_err_le {s : ByteArray} {p : Nat × Int} (h : lexS s = .error p) (hs : s.size ≤ 65536) : p.1 ≤ s.size := by
  unfold lexS at h
  rw [if_neg (by omega)] at h
  have := lexL_err_le h
  rw [size_list] at this
  omega
theorem lexS_err {s : ByteArray} {p : Nat × Int} (h : lexS s = .error p) : p.2 ≠ 0 := by
  unfold lexS at h
  split at h
  · cases h
    decide
  · exact lexL_err h
end Go.Proofs.YtffkaphbgfdpaaaGreatDoor.L
end
