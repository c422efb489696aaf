/- Numbers. -/
import Derived.Test.YtoknkgeojhekoaaDoorRun2
import Derived.Test.YtoknkgeojhekoaaDoorShelf
import Derived.RegionTactic
import Derived.BigRegion
import Derived.Deep.DeepCutAuto
import Derived.Deep.CutBlock
import Derived.Below
namespace Go.Proofs.YtoknkgeojhekoaaDoor
open Go.RowKit Go.Shelf
set_option linter.unusedVariables false
set_option linter.unusedSimpArgs false

/-- A digit's value; none: below 0. -/
def dig (h : Bool) (c : Int) : Int := if h then digitV c else if digitB c then c - 48 else -1
def baseI (h : Bool) : Int := if h then 16 else 10
def valL (h : Bool) : List UInt8 → Int → Option Int
  | [], v => some v
  | b :: l, v => if dig h (b.toNat : Int) < 0 then none else if v * baseI h + dig h (b.toNat : Int) > 4294967295 then none else valL h l (v * baseI h + dig h (b.toNat : Int))
/-- A number's value. -/
def numL (l : List UInt8) : Option Int :=
  if [48, 120].isPrefixOf l then (if l.length ≤ 2 then none else valL true (l.drop 2) 0)
  else if 1 < l.length ∧ l.head? = some 48 then none
  else if l.length = 0 then none else valL false l 0
theorem dig_range (h : Bool) (c : Int) : -1 ≤ dig h c ∧ dig h c ≤ 15 := by
  unfold dig digitV digitB
  cases h
  · simp only [Bool.false_eq_true, if_false]
    split
    · rename_i hh; simp at hh; omega
    · omega
  · simp only [if_true]
    split
    · rename_i hh; simp at hh; omega
    · split
      · rename_i hh; simp at hh; omega
      · omega
theorem extract_list (s : ByteArray) (a b : Nat) : (s.extract a b).data.toList = (s.data.toList.drop a).take (b - a) := by
  simp
theorem drop_byte {s : ByteArray} {i : Nat} (h : i < s.size) : s.data.toList.drop i = s[i] :: s.data.toList.drop (i + 1) := by
  rw [List.drop_eq_getElem_cons (by rw [size_list]; exact h), byte_get s i h]
theorem isEmpty_of {d : ByteArray} (h : ¬ d.size = 0) : d.toList.isEmpty = false := by
  rw [ByteArray.toList_eq]
  cases hq : d.data.toList with
  | nil => exact absurd (by rw [← size_list, hq]; rfl) h
  | cons _ _ => rfl
theorem empty_iff (s : ByteArray) : s = ⟨#[]⟩ ↔ s.size = 0 := by
  constructor
  · rintro rfl; rfl
  · intro h
    rcases s with ⟨a⟩
    congr 1
    exact Array.eq_empty_of_size_eq_zero h
theorem prefix_any (s p : ByteArray) (w : World) : Calls Tryd.prog 47 #[.string s, .string p] w fun e w' => e = .returned (.bool (Lib.hasPrefix s.data.toList p.data.toList)) ∧ w = w' := (Tryd.strings_HasPrefix s p w).mono fun _ _ h => ⟨h.1, h.2.symm⟩
theorem dig_cases (h : Bool) (c : Int) : (dig h c = c - 48 ∧ digitB c = true ∧ 48 ≤ c ∧ c ≤ 57) ∨ (dig h c = c - 87 ∧ digitB c = false ∧ (if h then hexB c = true else False) ∧ 97 ≤ c ∧ c ≤ 102) ∨ (dig h c = -1 ∧ digitB c = false ∧ (h = true → hexB c = false)) := by
  unfold dig digitV
  cases hd : digitB c with
  | true =>
    have hd2 := hd
    unfold digitB at hd2
    simp at hd2
    cases h <;> simp [hd2]
  | false =>
    cases h with
    | false => simp
    | true =>
      cases hx : (decide (97 ≤ c) && decide (c ≤ 102)) with
      | true =>
        have hx2 := hx
        simp at hx2
        simp [hexB, hd, hx2]
      | false =>
        right
        right
        refine ⟨by simp, rfl, fun _ => ?_⟩
        unfold hexB
        rw [hd, hx]
        rfl
set_option maxRecDepth 100000 in
set_option maxHeartbeats 3200000 in
theorem number_any (s : ByteArray) (w : World) (hs : s.size ≤ 4611686018427387904) :
    Calls Tryd.prog 45 #[.string s] w fun e w' => e = .returned (.tuple #[.int .u32 ((numL s.data.toList).getD 0), .bool (numL s.data.toList).isSome]) ∧ Below w.heap.size w w' := by
  cases hpre : List.isPrefixOf [48, 120] s.data.toList with
  | true =>
    obtain ⟨d, hd⟩ : ∃ d, s.extract 2 s.size = d := ⟨_, rfl⟩
    have h2 : 2 ≤ s.size := by
      have h := List.isPrefixOf_iff_prefix.1 hpre
      have := h.length_le
      rw [size_list] at this
      simpa using this
    have hds : d.size = s.size - 2 := by rw [← hd]; simp
    have hdl : d.data.toList = s.data.toList.drop 2 := by rw [← hd, extract_list, List.take_of_length_le (by simp)]
    have hN : 0 < d.size → numL s.data.toList = valL true d.data.toList 0 := fun h => by unfold numL; rw [hpre, if_pos rfl, if_neg (by rw [size_list]; omega), hdl]
    have hZ : d.size = 0 → numL s.data.toList = none := fun h => by unfold numL; rw [hpre, if_pos rfl, if_pos (by rw [size_list]; omega)]
    obtain ⟨V, hV⟩ : ∃ V, valL true d.data.toList 0 = V := ⟨_, rfl⟩
    rw [hV] at hN
    have HN := Lib.hid hN
    have HZ := Lib.hid hZ
    have HV := Lib.hid hV
    have Hd := Lib.hid hd
    have hdm : d.size ≤ 4611686018427387904 := by omega
    have hpre2 : Lib.hasPrefix s.data.toList [48, 120] = true := hpre
    have i2 : (2 : Int) ≤ (s.size : Int) := by omega
    clear hpre hN hZ hV hd hdl hds
    go_enter Tryd.func45, Tryd.ntmps45
    go_upto_region 3 with (first | (go_at_call 47; refine (prefix_any _ _ _).mono ?_; rw [hpre2]; rintro e w2 ⟨rfl, rfl⟩) | fail)
    go_cut [4, 5] (fun s4 s5 W => s4 = .int .u64 16 ∧ s5 = .string d ∧ w.drew = W)
    case first =>
      go_region
      all_goals
        go_wp2_with fail
        go_meet
        exact ⟨rfl, by rw [← Hd.out], rfl⟩
    case rest =>
    obtain ⟨rfl, rfl, hw⟩ := hcut
    have HBw : Hid (Below w.heap.size w wc) := Lib.hid (by rw [← hw]; exact (Below.refl _ w).drew)
    clear hw
    go_wp2_with fail

    go_loopw [7, 6] (fun x y wr => ∃ (i : Nat) (v : Int), x = .int .i64 i ∧ y = .int .u64 v ∧ i ≤ d.size ∧ 0 ≤ v ∧ v ≤ 4294967295 ∧ valL true (d.data.toList.drop i) v = V ∧ wc = wr) (fun x _ _ => d.size - (intOf x).toNat)
    case atStart => exact ⟨0, 0, rfl, rfl, by omega, by omega, by omega, by have := HV.out; simpa using this, rfl⟩
    case round =>
      obtain ⟨i, v, rfl, rfl, hi, hv0, hv1, hval, rfl⟩ := hrel
      have Hval := Lib.hid hval
      clear hval
      by_cases hlt : i < d.size
      · have i0 : (0 : Int) ≤ (i : Int) := by omega
        have i1 : (i : Int) < (d.size : Int) := by omega
        have hval := Hval.out
        rw [drop_byte hlt] at hval
        unfold valL at hval
        rw [show baseI true = 16 from rfl] at hval
        have hcr := u8_range d[i]
        have Hval2 := Lib.hid hval
        obtain ⟨c0, c9⟩ := hcr
        have hN : numL s.data.toList = V := HN.out (by omega)
        have HN2 := Lib.hid hN
        clear hval hN
        rcases dig_cases true (d[i].toNat : Int) with ⟨h1, h2, h3⟩ | ⟨h1, h2, h3, h4⟩ | ⟨h1, h2⟩
        · have hval := Hval2.out
          rw [if_neg (by omega), h1] at hval
          have e1 : digitB (d[i].toNat : Int) = true := h2
          obtain ⟨d0, d1⟩ := h3
          clear h1 h2
          by_cases hgt : v * 16 + ((d[i].toNat : Int) - 48) > 4294967295
          · rw [if_pos hgt] at hval
            have hv2 : numL s.data.toList = none := by rw [HN2.out, ← hval]
            have Hv2 := Lib.hid hv2
            have hg2 : 4294967295 < v * 16 + ((d[i].toNat : Int) - 48) := hgt
            clear hval hv2
            go_wp2_with (first | (go_at_call 31; refine (digit_any _ _).mono ?_; rw [e1]; rintro e w2 ⟨rfl, rfl⟩) | fail)
            go_ret2
            rw [Hv2.out]
            exact ⟨rfl, HBw.out⟩
          · rw [if_neg hgt] at hval
            have Hval3 := Lib.hid hval
            have hg2 : ¬ 4294967295 < v * 16 + ((d[i].toNat : Int) - 48) := hgt
            clear hval
            go_wp2_with (first | (go_at_call 31; refine (digit_any _ _).mono ?_; rw [e1]; rintro e w2 ⟨rfl, rfl⟩) | fail)
            go_round
            case rel => exact ⟨i + 1, v * 16 + ((d[i].toNat : Int) - 48), by go_num, rfl, by omega, by omega, by omega, Hval3.out, by trivial⟩
            case measure => simp [intOf]; omega
        · have hval := Hval2.out
          rw [if_neg (by omega), h1] at hval
          have e1 : digitB (d[i].toNat : Int) = false := h2
          have e2 : hexB (d[i].toNat : Int) = true := h3
          obtain ⟨d0, d1⟩ := h4
          clear h1 h2 h3
          by_cases hgt : v * 16 + ((d[i].toNat : Int) - 87) > 4294967295
          · rw [if_pos hgt] at hval
            have hv2 : numL s.data.toList = none := by rw [HN2.out, ← hval]
            have Hv2 := Lib.hid hv2
            have hg2 : 4294967295 < v * 16 + ((d[i].toNat : Int) - 97 + 10) := by omega
            clear hval hv2
            go_wp2_with (first | (go_at_call 31; refine (digit_any _ _).mono ?_; rw [e1]; rintro e w2 ⟨rfl, rfl⟩) | (go_at_call 29; refine (hex_any _ _).mono ?_; rw [e2]; rintro e w2 ⟨rfl, rfl⟩) | fail)
            go_ret2
            rw [Hv2.out]
            exact ⟨rfl, HBw.out⟩
          · rw [if_neg hgt] at hval
            have Hval3 := Lib.hid hval
            have hg2 : ¬ 4294967295 < v * 16 + ((d[i].toNat : Int) - 97 + 10) := by omega
            clear hval
            go_wp2_with (first | (go_at_call 31; refine (digit_any _ _).mono ?_; rw [e1]; rintro e w2 ⟨rfl, rfl⟩) | (go_at_call 29; refine (hex_any _ _).mono ?_; rw [e2]; rintro e w2 ⟨rfl, rfl⟩) | fail)
            go_round
            case rel => exact ⟨i + 1, v * 16 + ((d[i].toNat : Int) - 87), by go_num, by congr 1; omega, by omega, by omega, by omega, Hval3.out, by trivial⟩
            case measure => simp [intOf]; omega
        · have hval := Hval2.out
          rw [if_pos (by omega)] at hval
          have hv2 : numL s.data.toList = none := by rw [HN2.out, ← hval]
          have Hv2 := Lib.hid hv2
          clear hval hv2
          obtain ⟨e1, e2⟩ := h2; replace e2 := e2 rfl
          go_wp2_with (first | (go_at_call 31; refine (digit_any _ _).mono ?_; rw [e1]; rintro e w2 ⟨rfl, rfl⟩) | (go_at_call 29; refine (hex_any _ _).mono ?_; rw [e2]; rintro e w2 ⟨rfl, rfl⟩) | fail)
          go_ret2
          rw [Hv2.out]
          exact ⟨rfl, HBw.out⟩
      · have hval := Hval.out
        rw [List.drop_of_length_le (by rw [size_list]; omega)] at hval
        have hval : some v = V := hval
        have Hval2 := Lib.hid hval
        have i1 : ¬ (i : Int) < (d.size : Int) := by omega
        clear hval
        by_cases hd0 : d.size = 0
        · have hde := (empty_iff d).2 hd0
          subst hde
          have hz : v = 0 := by
            have h1 := HV.out
            have h2 := Hval2.out
            have h3 : some (0 : Int) = V := h1
            rw [← h3] at h2
            exact Option.some.inj h2
          subst hz
          go_wp2_with fail
          go_ret2
          rw [HZ.out rfl]
          exact ⟨rfl, HBw.out⟩
        · have hde : d.toList.isEmpty = false := isEmpty_of hd0
          have hv2 : numL s.data.toList = some v := by rw [HN.out (by omega), Hval2.out]
          have Hv2 := Lib.hid hv2
          clear hv2
          go_wp2_with fail
          go_ret2
          rw [Hv2.out]
          refine ⟨?_, HBw.out⟩
          simp
  | false =>
    have hpre2 : Lib.hasPrefix s.data.toList [48, 120] = false := hpre
    by_cases h1 : 1 < s.size
    · have i2 : (1 : Int) < (s.size : Int) := by omega
      have hhd : s.data.toList.head? = some (s[0]'(by omega)) := by
        rw [List.head?_eq_getElem?, List.getElem?_eq_getElem (by rw [size_list]; omega), byte_get s 0 (by omega)]
      cases hz : (((s[0]'(by omega)).toNat : Int) == 48) with
      | true =>
        have hh : s.data.toList.head? = some 48 := by
          have h48 : s[0]'(by omega) = 48 := by
            apply UInt8.toNat_inj.1
            simp at hz
            show _ = 48
            omega
          rw [hhd, h48]
        have hN : numL s.data.toList = none := by
          unfold numL
          rw [hpre, if_neg (by simp), if_pos ⟨by rw [size_list]; exact h1, hh⟩]
        have HN := Lib.hid hN
        clear hN hhd hpre hh
        go_enter Tryd.func45, Tryd.ntmps45
        go_wp2_with (first | (go_at_call 47; refine (prefix_any _ _ _).mono ?_; rw [hpre2]; rintro e w2 ⟨rfl, rfl⟩) | fail)
        go_ret2
        rw [HN.out]
        exact ⟨rfl, Below.refl _ _⟩
      | false =>
        have hN1 : numL s.data.toList = valL false s.data.toList 0 := by
          unfold numL
          rw [hpre, if_neg (by simp), if_neg, if_neg (by rw [size_list]; omega)]
          rintro ⟨_, h⟩
          rw [hhd] at h
          have h := Option.some.inj h
          rw [h] at hz
          simp at hz
        have HBw := Lib.hid (Below.refl w.heap.size w)
        have hN : 0 < s.size → numL s.data.toList = valL false s.data.toList 0 := fun _ => hN1
        have hZ : s.size = 0 → numL s.data.toList = none := fun h => by
          unfold numL
          rw [hpre, if_neg (by simp), if_neg (by rw [size_list]; omega), if_pos (by rw [size_list]; exact h)]
        obtain ⟨V, hV⟩ : ∃ V, valL false s.data.toList 0 = V := ⟨_, rfl⟩
        rw [hV] at hN
        have HN := Lib.hid hN
        have HZ := Lib.hid hZ
        have HV := Lib.hid hV
        clear hN hZ hV hN1 hpre hhd
        go_enter Tryd.func45, Tryd.ntmps45
        go_wp2_with (first | (go_at_call 47; refine (prefix_any _ _ _).mono ?_; rw [hpre2]; rintro e w2 ⟨rfl, rfl⟩) | fail)

        go_loopw [7, 6] (fun x y wr => ∃ (i : Nat) (v : Int), x = .int .i64 i ∧ y = .int .u64 v ∧ i ≤ s.size ∧ 0 ≤ v ∧ v ≤ 4294967295 ∧ valL false (s.data.toList.drop i) v = V ∧ w = wr) (fun x _ _ => s.size - (intOf x).toNat)
        case atStart => exact ⟨0, 0, rfl, rfl, by omega, by omega, by omega, by have := HV.out; simpa using this, rfl⟩
        case round =>
          obtain ⟨i, v, rfl, rfl, hi, hv0, hv1, hval, rfl⟩ := hrel
          have Hval := Lib.hid hval
          clear hval
          by_cases hlt : i < s.size
          · have i0 : (0 : Int) ≤ (i : Int) := by omega
            have i1 : (i : Int) < (s.size : Int) := by omega
            have hval := Hval.out
            rw [drop_byte hlt] at hval
            unfold valL at hval
            rw [show baseI false = 10 from rfl] at hval
            have hcr := u8_range s[i]
            have Hval2 := Lib.hid hval
            obtain ⟨c0, c9⟩ := hcr
            have hN : numL s.data.toList = V := HN.out (by omega)
            have HN2 := Lib.hid hN
            clear hval hN
            rcases dig_cases false (s[i].toNat : Int) with ⟨h1, h2, h3⟩ | ⟨h1, h2, h3, h4⟩ | ⟨h1, h2⟩
            · have hval := Hval2.out
              rw [if_neg (by omega), h1] at hval
              have e1 : digitB (s[i].toNat : Int) = true := h2
              obtain ⟨d0, d1⟩ := h3
              clear h1 h2
              by_cases hgt : v * 10 + ((s[i].toNat : Int) - 48) > 4294967295
              · rw [if_pos hgt] at hval
                have hv2 : numL s.data.toList = none := by rw [HN2.out, ← hval]
                have Hv2 := Lib.hid hv2
                have hg2 : 4294967295 < v * 10 + ((s[i].toNat : Int) - 48) := hgt
                clear hval hv2
                go_wp2_with (first | (go_at_call 31; refine (digit_any _ _).mono ?_; rw [e1]; rintro e w2 ⟨rfl, rfl⟩) | fail)
                go_ret2
                rw [Hv2.out]
                exact ⟨rfl, HBw.out⟩
              · rw [if_neg hgt] at hval
                have Hval3 := Lib.hid hval
                have hg2 : ¬ 4294967295 < v * 10 + ((s[i].toNat : Int) - 48) := hgt
                clear hval
                go_wp2_with (first | (go_at_call 31; refine (digit_any _ _).mono ?_; rw [e1]; rintro e w2 ⟨rfl, rfl⟩) | fail)
                go_round
                case rel => exact ⟨i + 1, v * 10 + ((s[i].toNat : Int) - 48), by go_num, rfl, by omega, by omega, by omega, Hval3.out, by trivial⟩
                case measure => simp [intOf]; omega
            · cases h3
            · have hval := Hval2.out
              rw [if_pos (by omega)] at hval
              have hv2 : numL s.data.toList = none := by rw [HN2.out, ← hval]
              have Hv2 := Lib.hid hv2
              clear hval hv2
              have e1 := h2.1
              go_wp2_with (first | (go_at_call 31; refine (digit_any _ _).mono ?_; rw [e1]; rintro e w2 ⟨rfl, rfl⟩) | fail)
              go_ret2
              rw [Hv2.out]
              exact ⟨rfl, HBw.out⟩
          · have hval := Hval.out
            rw [List.drop_of_length_le (by rw [size_list]; omega)] at hval
            have hval : some v = V := hval
            have Hval2 := Lib.hid hval
            have i1 : ¬ (i : Int) < (s.size : Int) := by omega
            clear hval
            by_cases hd0 : s.size = 0
            · exact absurd hd0 (by omega)
            · have hde : s.toList.isEmpty = false := isEmpty_of hd0
              have hv2 : numL s.data.toList = some v := by rw [HN.out (by omega), Hval2.out]
              have Hv2 := Lib.hid hv2
              clear hv2
              go_wp2_with fail
              go_ret2
              rw [Hv2.out]
              refine ⟨?_, HBw.out⟩
              simp
    · have hN1 : 0 < s.size → numL s.data.toList = valL false s.data.toList 0 := fun h => by
        unfold numL
        rw [hpre, if_neg (by simp), if_neg (by rw [size_list]; omega), if_neg (by rw [size_list]; omega)]
      have i2 : ¬ (1 : Int) < (s.size : Int) := by omega
      have HBw := Lib.hid (Below.refl w.heap.size w)
      have hN : 0 < s.size → numL s.data.toList = valL false s.data.toList 0 := hN1
      have hZ : s.size = 0 → numL s.data.toList = none := fun h => by
        unfold numL
        rw [hpre, if_neg (by simp), if_neg (by rw [size_list]; omega), if_pos (by rw [size_list]; exact h)]
      obtain ⟨V, hV⟩ : ∃ V, valL false s.data.toList 0 = V := ⟨_, rfl⟩
      rw [hV] at hN
      have HN := Lib.hid hN
      have HZ := Lib.hid hZ
      have HV := Lib.hid hV
      clear hN hZ hV hN1 hpre
      go_enter Tryd.func45, Tryd.ntmps45
      go_wp2_with (first | (go_at_call 47; refine (prefix_any _ _ _).mono ?_; rw [hpre2]; rintro e w2 ⟨rfl, rfl⟩) | fail)

      go_loopw [7, 6] (fun x y wr => ∃ (i : Nat) (v : Int), x = .int .i64 i ∧ y = .int .u64 v ∧ i ≤ s.size ∧ 0 ≤ v ∧ v ≤ 4294967295 ∧ valL false (s.data.toList.drop i) v = V ∧ w = wr) (fun x _ _ => s.size - (intOf x).toNat)
      case atStart => exact ⟨0, 0, rfl, rfl, by omega, by omega, by omega, by have := HV.out; simpa using this, rfl⟩
      case round =>
        obtain ⟨i, v, rfl, rfl, hi, hv0, hv1, hval, rfl⟩ := hrel
        have Hval := Lib.hid hval
        clear hval
        by_cases hlt : i < s.size
        · have i0 : (0 : Int) ≤ (i : Int) := by omega
          have i1 : (i : Int) < (s.size : Int) := by omega
          have hval := Hval.out
          rw [drop_byte hlt] at hval
          unfold valL at hval
          rw [show baseI false = 10 from rfl] at hval
          have hcr := u8_range s[i]
          have Hval2 := Lib.hid hval
          obtain ⟨c0, c9⟩ := hcr
          have hN : numL s.data.toList = V := HN.out (by omega)
          have HN2 := Lib.hid hN
          clear hval hN
          rcases dig_cases false (s[i].toNat : Int) with ⟨h1, h2, h3⟩ | ⟨h1, h2, h3, h4⟩ | ⟨h1, h2⟩
          · have hval := Hval2.out
            rw [if_neg (by omega), h1] at hval
            have e1 : digitB (s[i].toNat : Int) = true := h2
            obtain ⟨d0, d1⟩ := h3
            clear h1 h2
            by_cases hgt : v * 10 + ((s[i].toNat : Int) - 48) > 4294967295
            · rw [if_pos hgt] at hval
              have hv2 : numL s.data.toList = none := by rw [HN2.out, ← hval]
              have Hv2 := Lib.hid hv2
              have hg2 : 4294967295 < v * 10 + ((s[i].toNat : Int) - 48) := hgt
              clear hval hv2
              go_wp2_with (first | (go_at_call 31; refine (digit_any _ _).mono ?_; rw [e1]; rintro e w2 ⟨rfl, rfl⟩) | fail)
              go_ret2
              rw [Hv2.out]
              exact ⟨rfl, HBw.out⟩
            · rw [if_neg hgt] at hval
              have Hval3 := Lib.hid hval
              have hg2 : ¬ 4294967295 < v * 10 + ((s[i].toNat : Int) - 48) := hgt
              clear hval
              go_wp2_with (first | (go_at_call 31; refine (digit_any _ _).mono ?_; rw [e1]; rintro e w2 ⟨rfl, rfl⟩) | fail)
              go_round
              case rel => exact ⟨i + 1, v * 10 + ((s[i].toNat : Int) - 48), by go_num, rfl, by omega, by omega, by omega, Hval3.out, by trivial⟩
              case measure => simp [intOf]; omega
          · cases h3
          · have hval := Hval2.out
            rw [if_pos (by omega)] at hval
            have hv2 : numL s.data.toList = none := by rw [HN2.out, ← hval]
            have Hv2 := Lib.hid hv2
            clear hval hv2
            have e1 := h2.1
            go_wp2_with (first | (go_at_call 31; refine (digit_any _ _).mono ?_; rw [e1]; rintro e w2 ⟨rfl, rfl⟩) | fail)
            go_ret2
            rw [Hv2.out]
            exact ⟨rfl, HBw.out⟩
        · have hval := Hval.out
          rw [List.drop_of_length_le (by rw [size_list]; omega)] at hval
          have hval : some v = V := hval
          have Hval2 := Lib.hid hval
          have i1 : ¬ (i : Int) < (s.size : Int) := by omega
          clear hval
          by_cases hd0 : s.size = 0
          · have hde := (empty_iff s).2 hd0
            subst hde
            have hz : v = 0 := by
              have h1 := HV.out
              have h2 := Hval2.out
              have h3 : some (0 : Int) = V := h1
              rw [← h3] at h2
              exact Option.some.inj h2
            subst hz
            go_wp2_with fail
            go_ret2
            rw [HZ.out rfl]
            exact ⟨rfl, HBw.out⟩
          · have hde : s.toList.isEmpty = false := isEmpty_of hd0
            have hv2 : numL s.data.toList = some v := by rw [HN.out (by omega), Hval2.out]
            have Hv2 := Lib.hid hv2
            clear hv2
            go_wp2_with fail
            go_ret2
            rw [Hv2.out]
            refine ⟨?_, HBw.out⟩
            simp
end Go.Proofs.YtoknkgeojhekoaaDoor
