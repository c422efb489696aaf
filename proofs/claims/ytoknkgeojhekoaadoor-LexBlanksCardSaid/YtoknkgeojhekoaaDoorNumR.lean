/- The document's numbers. -/
import Derived.Test.YtoknkgeojhekoaaDoorNum
namespace Go.Proofs.YtoknkgeojhekoaaDoor
open Go.RowKit Go.Shelf
set_option linter.unusedVariables false
set_option linter.unusedSimpArgs false

def num10 (l : List UInt8) : Option Int := if l.length = 0 then none else if 1 < l.length ∧ l.head? = some 48 then none else valL false l 0
theorem head_byte {s : ByteArray} (h : 0 < s.size) : s.data.toList.head? = some (s[0]'h) := by
  rw [List.head?_eq_getElem?, List.getElem?_eq_getElem (by rw [size_list]; omega), byte_get s 0 h]
theorem byte_eq {b c : UInt8} : ((b.toNat : Int) == (c.toNat : Int)) = decide (b = c) := by
  cases h : decide (b = c) with
  | true => have := of_decide_eq_true h; rw [this]; simp
  | false =>
    have := of_decide_eq_false h
    simp only [beq_eq_false_iff_ne, ne_eq]
    intro e
    exact this (UInt8.toNat_inj.1 (by omega))
set_option maxRecDepth 100000 in
set_option maxHeartbeats 1600000 in
theorem ref1num_any (s : ByteArray) (w : World) (hs : s.size ≤ 4611686018427387904) :
    Calls Tryd.prog 38 #[.string s, .int .u64 4294967295] w fun e w' => e = .returned (.tuple #[.int .u64 ((num10 s.data.toList).getD 0), .bool (num10 s.data.toList).isSome]) ∧ w = w' := by
  by_cases h0 : s.size = 0
  · have hN : num10 s.data.toList = none := by unfold num10; rw [if_pos (by rw [size_list]; exact h0)]
    have HN := Lib.hid hN
    clear hN
    go_enter Tryd.func38, Tryd.ntmps38
    go_wp2_with fail
    go_ret2
    rw [HN.out]
    exact ⟨rfl, rfl⟩
  · have i0 : (0 : Int) < (s.size : Int) := by omega
    have i00 : ((s.size : Int) == 0) = false := beq_eq_false_iff_ne.2 (by omega)
    have hp0 : 0 < s.size := by omega
    obtain ⟨z, hz⟩ : ∃ z, (decide (1 < s.size) && (((s[0]'hp0).toNat : Int) == 48)) = z := ⟨_, rfl⟩
    have hhd := head_byte (s := s) (by omega)
    have hb : (((s[0]'hp0).toNat : Int) == 48) = decide (s[0]'hp0 = 48) := byte_eq (c := 48)
    cases z with
    | true =>
      have h2 := hz
      rw [hb] at h2
      simp at h2
      have hN : num10 s.data.toList = none := by unfold num10; rw [if_neg (by rw [size_list]; omega), if_pos ⟨by rw [size_list]; exact h2.1, by rw [hhd, h2.2]⟩]
      have HN := Lib.hid hN
      have h48 : (((s[0]'hp0).toNat : Int) == 48) = true := by rw [hb]; simp [h2.2]
      have i1 : (1 : Int) < (s.size : Int) := by omega
      clear hN hhd hb hz
      go_enter Tryd.func38, Tryd.ntmps38
      go_wp2_with fail
      go_ret2
      rw [HN.out]
      exact ⟨rfl, rfl⟩
    | false =>
      have hN : num10 s.data.toList = valL false s.data.toList 0 := by
        unfold num10
        rw [if_neg (by rw [size_list]; omega), if_neg]
        rintro ⟨q1, q2⟩
        rw [hhd] at q2
        rw [size_list] at q1
        have q3 := Option.some.inj q2
        rw [hb] at hz
        simp [q1, q3] at hz
      obtain ⟨V, hV⟩ : ∃ V, valL false s.data.toList 0 = V := ⟨_, rfl⟩
      rw [hV] at hN
      have HN := Lib.hid hN
      have HV := Lib.hid hV
      rw [HN.out]
      clear hN hV hhd
      by_cases q : 1 < s.size
      · have i1 : (1 : Int) < (s.size : Int) := by omega
        have q48 : (((s[0]'hp0).toNat : Int) == 48) = false := by simpa [q] using hz
        clear hb hz
        go_enter Tryd.func38, Tryd.ntmps38
        go_wp2_with fail

        go_loopw [7, 6] (fun x y wr => ∃ (i : Nat) (v : Int), x = .int .i64 i ∧ y = .int .u64 v ∧ i ≤ s.size ∧ 0 ≤ v ∧ v ≤ 4294967295 ∧ valL false (s.data.toList.drop i) v = V ∧ w = wr) (fun x _ _ => s.size - (intOf x).toNat)
        case atStart => exact ⟨0, 0, rfl, rfl, by omega, by omega, by omega, by have := HV.out; simpa using this, rfl⟩
        case round =>
          obtain ⟨i, v, rfl, rfl, hi, hv0, hv1, hval, rfl⟩ := hrel
          have Hval := Lib.hid hval
          clear hval
          by_cases hlt : i < s.size
          · have j0 : (0 : Int) ≤ (i : Int) := by omega
            have j1 : (i : Int) < (s.size : Int) := by omega
            have hval := Hval.out
            rw [drop_byte hlt] at hval
            unfold valL at hval
            rw [show baseI false = 10 from rfl] at hval
            have hcr := u8_range s[i]
            obtain ⟨c0, c9⟩ := hcr
            have Hval2 := Lib.hid hval
            clear hval
            rcases dig_cases false (s[i].toNat : Int) with ⟨h1, h2, h3⟩ | ⟨h1, h2, h3, h4⟩ | ⟨h1, h2⟩
            · have hval := Hval2.out
              rw [if_neg (by omega), h1] at hval
              obtain ⟨d0, d1⟩ := h3
              clear h1 h2
              by_cases hgt : v * 10 + ((s[i].toNat : Int) - 48) > 4294967295
              · rw [if_pos hgt] at hval
                have hV : V = none := hval.symm
                have HVn := Lib.hid hV
                have hg2 : 4294967295 < 10 * v + ((s[i].toNat : Int) - 48) := by omega
                have e1 : ¬ (s[i].toNat : Int) < 48 := by omega
                have e2 : ¬ 57 < (s[i].toNat : Int) := by omega
                clear hval hV
                go_wp2_with fail
                go_ret2
                rw [HVn.out]
                exact ⟨rfl, rfl⟩
              · rw [if_neg hgt] at hval
                have Hval3 := Lib.hid hval
                have hg2 : ¬ 4294967295 < 10 * v + ((s[i].toNat : Int) - 48) := by omega
                have e1 : ¬ (s[i].toNat : Int) < 48 := by omega
                have e2 : ¬ 57 < (s[i].toNat : Int) := by omega
                clear hval
                go_wp2_with fail
                go_round
                case rel => exact ⟨i + 1, v * 10 + ((s[i].toNat : Int) - 48), by go_num, by congr 1; omega, by omega, by omega, by omega, Hval3.out, by trivial⟩
                case measure => simp [intOf]; omega
            · cases h3
            · have hval := Hval2.out
              rw [if_pos (by omega)] at hval
              have hV : V = none := hval.symm
              have HVn := Lib.hid hV
              have hd := h2.1
              unfold digitB at hd
              clear hval hV h1 h2
              by_cases e1 : (s[i].toNat : Int) < 48
              · go_wp2_with fail
                go_ret2
                rw [HVn.out]
                exact ⟨rfl, rfl⟩
              · have e2 : 57 < (s[i].toNat : Int) := by simp at hd; omega
                go_wp2_with fail
                go_ret2
                rw [HVn.out]
                exact ⟨rfl, rfl⟩
          · have hval := Hval.out
            rw [List.drop_of_length_le (by rw [size_list]; omega)] at hval
            have hval : some v = V := hval
            have Hval2 := Lib.hid hval
            have j1 : ¬ (i : Int) < (s.size : Int) := by omega
            clear hval
            go_wp2_with fail
            go_ret2
            rw [← Hval2.out]
            exact ⟨rfl, rfl⟩
      · have i1 : ¬ (1 : Int) < (s.size : Int) := by omega
        clear hb hz
        go_enter Tryd.func38, Tryd.ntmps38
        go_wp2_with fail

        go_loopw [7, 6] (fun x y wr => ∃ (i : Nat) (v : Int), x = .int .i64 i ∧ y = .int .u64 v ∧ i ≤ s.size ∧ 0 ≤ v ∧ v ≤ 4294967295 ∧ valL false (s.data.toList.drop i) v = V ∧ w = wr) (fun x _ _ => s.size - (intOf x).toNat)
        case atStart => exact ⟨0, 0, rfl, rfl, by omega, by omega, by omega, by have := HV.out; simpa using this, rfl⟩
        case round =>
          obtain ⟨i, v, rfl, rfl, hi, hv0, hv1, hval, rfl⟩ := hrel
          have Hval := Lib.hid hval
          clear hval
          by_cases hlt : i < s.size
          · have j0 : (0 : Int) ≤ (i : Int) := by omega
            have j1 : (i : Int) < (s.size : Int) := by omega
            have hval := Hval.out
            rw [drop_byte hlt] at hval
            unfold valL at hval
            rw [show baseI false = 10 from rfl] at hval
            have hcr := u8_range s[i]
            obtain ⟨c0, c9⟩ := hcr
            have Hval2 := Lib.hid hval
            clear hval
            rcases dig_cases false (s[i].toNat : Int) with ⟨h1, h2, h3⟩ | ⟨h1, h2, h3, h4⟩ | ⟨h1, h2⟩
            · have hval := Hval2.out
              rw [if_neg (by omega), h1] at hval
              obtain ⟨d0, d1⟩ := h3
              clear h1 h2
              by_cases hgt : v * 10 + ((s[i].toNat : Int) - 48) > 4294967295
              · rw [if_pos hgt] at hval
                have hV : V = none := hval.symm
                have HVn := Lib.hid hV
                have hg2 : 4294967295 < 10 * v + ((s[i].toNat : Int) - 48) := by omega
                have e1 : ¬ (s[i].toNat : Int) < 48 := by omega
                have e2 : ¬ 57 < (s[i].toNat : Int) := by omega
                clear hval hV
                go_wp2_with fail
                go_ret2
                rw [HVn.out]
                exact ⟨rfl, rfl⟩
              · rw [if_neg hgt] at hval
                have Hval3 := Lib.hid hval
                have hg2 : ¬ 4294967295 < 10 * v + ((s[i].toNat : Int) - 48) := by omega
                have e1 : ¬ (s[i].toNat : Int) < 48 := by omega
                have e2 : ¬ 57 < (s[i].toNat : Int) := by omega
                clear hval
                go_wp2_with fail
                go_round
                case rel => exact ⟨i + 1, v * 10 + ((s[i].toNat : Int) - 48), by go_num, by congr 1; omega, by omega, by omega, by omega, Hval3.out, by trivial⟩
                case measure => simp [intOf]; omega
            · cases h3
            · have hval := Hval2.out
              rw [if_pos (by omega)] at hval
              have hV : V = none := hval.symm
              have HVn := Lib.hid hV
              have hd := h2.1
              unfold digitB at hd
              clear hval hV h1 h2
              by_cases e1 : (s[i].toNat : Int) < 48
              · go_wp2_with fail
                go_ret2
                rw [HVn.out]
                exact ⟨rfl, rfl⟩
              · have e2 : 57 < (s[i].toNat : Int) := by simp at hd; omega
                go_wp2_with fail
                go_ret2
                rw [HVn.out]
                exact ⟨rfl, rfl⟩
          · have hval := Hval.out
            rw [List.drop_of_length_le (by rw [size_list]; omega)] at hval
            have hval : some v = V := hval
            have Hval2 := Lib.hid hval
            have j1 : ¬ (i : Int) < (s.size : Int) := by omega
            clear hval
            go_wp2_with fail
            go_ret2
            rw [← Hval2.out]
            exact ⟨rfl, rfl⟩
theorem pre_iff (s : ByteArray) : List.isPrefixOf [48, 120] s.data.toList = true ↔ ∃ h : 1 < s.size, s[0]'(by omega) = 48 ∧ s[1]'h = 120 := by
  rw [List.isPrefixOf_iff_prefix]
  constructor
  · rintro ⟨t, ht⟩
    have hl : 1 < s.size := by rw [← size_list, ← ht]; simp
    refine ⟨hl, ?_, ?_⟩
    · rw [← byte_get s 0 (by omega)]
      simp [← ht]
    · rw [← byte_get s 1 hl]
      simp [← ht]
  · rintro ⟨h, h0, h1⟩
    refine ⟨s.data.toList.drop 2, ?_⟩
    have e0 := drop_byte (s := s) (i := 0) (by omega)
    have e1 := drop_byte (s := s) (i := 1) h
    rw [List.drop_zero] at e0
    rw [e0]
    simp only [Nat.zero_add]
    rw [e1, h0, h1]
    rfl
theorem num_ten {s : ByteArray} (h : ¬ (2 < s.size ∧ List.isPrefixOf [48, 120] s.data.toList = true)) : numL s.data.toList = num10 s.data.toList := by
  unfold numL num10
  cases hp : List.isPrefixOf [48, 120] s.data.toList with
  | true =>
    obtain ⟨h1, h2, h3⟩ := (pre_iff s).1 hp
    have : ¬ 2 < s.size := fun q => h ⟨q, hp⟩
    rw [if_pos rfl, if_pos (by rw [size_list]; omega), if_neg (by rw [size_list]; omega), if_pos ⟨by rw [size_list]; omega, by rw [head_byte (by omega), h2]⟩]
  | false =>
    rw [if_neg (by simp)]
    by_cases h0 : s.data.toList.length = 0
    · rw [if_neg (by omega), if_pos h0]
      simp [h0]
    · rw [if_neg h0]
      split
      · rfl
      · rfl
theorem num_max : ∀ (l : List UInt8) (h : Bool) (v : Int), 0 ≤ v → v ≤ 4294967295 → ∀ r, valL h l v = some r → 0 ≤ r ∧ r ≤ 4294967295
  | [], h, v, h0, h1, r, hr => by
    have : v = r := Option.some.inj hr
    omega
  | b :: l, h, v, h0, h1, r, hr => by
    unfold valL at hr
    split at hr
    · cases hr
    · split at hr
      · cases hr
      · rename_i q1 q2
        refine num_max l h _ ?_ (by omega) r hr
        unfold baseI
        split <;> omega
theorem numL_max {l : List UInt8} {r : Int} (h : numL l = some r) : 0 ≤ r ∧ r ≤ 4294967295 := by
  unfold numL at h
  split at h
  · split at h
    · cases h
    · exact num_max _ _ _ (by omega) (by omega) _ h
  · split at h
    · cases h
    · split at h
      · cases h
      · exact num_max _ _ _ (by omega) (by omega) _ h
theorem getD_max (l : List UInt8) : 0 ≤ (numL l).getD 0 ∧ (numL l).getD 0 ≤ 4294967295 := by
  cases h : numL l with
  | none => exact ⟨by decide, by decide⟩
  | some r => exact numL_max h
set_option maxRecDepth 100000 in
set_option maxHeartbeats 1600000 in
theorem rnumber_any (s : ByteArray) (w : World) (hs : s.size ≤ 4611686018427387904) :
    Calls Tryd.prog 25 #[.string s] w fun e w' => e = .returned (.tuple #[.int .u32 ((numL s.data.toList).getD 0), .bool (numL s.data.toList).isSome]) ∧ w = w' := by
  have hmx := getD_max s.data.toList
  by_cases h2 : 2 < s.size
  · have i2 : (2 : Int) < (s.size : Int) := by omega
    have hp0 : 0 < s.size := by omega
    have hp1 : 1 < s.size := by omega
    have b0 : (((s[0]'hp0).toNat : Int) == 48) = decide (s[0]'hp0 = 48) := byte_eq (c := 48)
    have b1 : (((s[1]'hp1).toNat : Int) == 120) = decide (s[1]'hp1 = 120) := byte_eq (c := 120)
    by_cases h48 : s[0]'hp0 = 48
    · replace b0 : (((s[0]'hp0).toNat : Int) == 48) = true := by rw [b0]; simp [h48]
      by_cases h120 : s[1]'hp1 = 120
      · replace b1 : (((s[1]'hp1).toNat : Int) == 120) = true := by rw [b1]; simp [h120]
        have hp := (pre_iff s).2 ⟨by omega, h48, h120⟩
        have hN : numL s.data.toList = valL true (s.data.toList.drop 2) 0 := by unfold numL; rw [hp, if_pos rfl, if_neg (by rw [size_list]; omega)]
        obtain ⟨V, hV⟩ : ∃ V, valL true (s.data.toList.drop 2) 0 = V := ⟨_, rfl⟩
        rw [hV] at hN
        have HV := Lib.hid hV
        rw [hN]
        clear hN hV hp h48 h120 hmx
        go_enter Tryd.func25, Tryd.ntmps25
        go_wp2_with fail

        go_loopw [5, 4] (fun x y wr => ∃ (i : Nat) (v : Int), x = .int .i64 i ∧ y = .int .u64 v ∧ 2 ≤ i ∧ i ≤ s.size ∧ 0 ≤ v ∧ v ≤ 4294967295 ∧ valL true (s.data.toList.drop i) v = V ∧ w = wr) (fun x _ _ => s.size - (intOf x).toNat)
        case atStart => exact ⟨2, 0, rfl, rfl, by omega, by omega, by omega, by omega, HV.out, rfl⟩
        case round =>
          obtain ⟨i, v, rfl, rfl, h2i, hi, hv0, hv1, hval, rfl⟩ := hrel
          have Hval := Lib.hid hval
          clear hval
          by_cases hlt : i < s.size
          · have j0 : (0 : Int) ≤ (i : Int) := by omega
            have j1 : (i : Int) < (s.size : Int) := by omega
            have hval := Hval.out
            rw [drop_byte hlt] at hval
            unfold valL at hval
            rw [show baseI true = 16 from rfl] at hval
            have hcr := u8_range s[i]
            obtain ⟨c0, c9⟩ := hcr
            have Hval2 := Lib.hid hval
            clear hval
            have hrg := dig_range true (s[i].toNat : Int)
            have hdv : dig true (s[i].toNat : Int) = digitV (s[i].toNat : Int) := rfl
            rw [hdv] at hrg
            have hval := Hval2.out
            rw [hdv] at hval
            obtain ⟨x, hx⟩ : ∃ x, digitV (s[i].toNat : Int) = x := ⟨_, rfl⟩
            rw [hx] at hval hrg
            have Hx := Lib.hid hx
            have Hvx := Lib.hid hval
            obtain ⟨r0, r1⟩ := hrg
            clear hval hx hdv
            by_cases hneg : x < 0
            · have hval := Hvx.out
              rw [if_pos hneg] at hval
              have hV : V = none := hval.symm
              have HVn := Lib.hid hV
              clear hval hV
              go_wp2_with (first | (go_at_call 37; refine (dval_any _ _ c0 c9).mono ?_; rw [Hx.out]; rintro e w2 ⟨rfl, rfl⟩) | fail)
              go_ret2
              rw [HVn.out]
              exact ⟨rfl, rfl⟩
            · have hval := Hvx.out
              rw [if_neg hneg] at hval
              have x0 : 0 ≤ x := by omega
              by_cases hgt : v * 16 + x > 4294967295
              · rw [if_pos hgt] at hval
                have hV : V = none := hval.symm
                have HVn := Lib.hid hV
                have hg2 : 4294967295 < 16 * v + x := by omega
                clear hval hV
                go_wp2_with (first | (go_at_call 37; refine (dval_any _ _ c0 c9).mono ?_; rw [Hx.out]; rintro e w2 ⟨rfl, rfl⟩) | fail)
                go_ret2
                rw [HVn.out]
                exact ⟨rfl, rfl⟩
              · rw [if_neg hgt] at hval
                have Hval3 := Lib.hid hval
                have hg2 : ¬ 4294967295 < 16 * v + x := by omega
                clear hval
                go_wp2_with (first | (go_at_call 37; refine (dval_any _ _ c0 c9).mono ?_; rw [Hx.out]; rintro e w2 ⟨rfl, rfl⟩) | fail)
                go_round
                case rel => exact ⟨i + 1, v * 16 + x, by go_num, by congr 1; omega, by omega, by omega, by omega, by omega, Hval3.out, by trivial⟩
                case measure => simp [intOf]; omega
          · have hval := Hval.out
            rw [List.drop_of_length_le (by rw [size_list]; omega)] at hval
            have hval : some v = V := hval
            have Hval2 := Lib.hid hval
            have j1 : ¬ (i : Int) < (s.size : Int) := by omega
            clear hval
            go_wp2_with fail
            go_ret2
            rw [← Hval2.out]
            exact ⟨rfl, rfl⟩
      · replace b1 : (((s[1]'hp1).toNat : Int) == 120) = false := by rw [b1]; simp [h120]
        have hN := num_ten (s := s) (fun q => by obtain ⟨_, _, q3⟩ := (pre_iff s).1 q.2; exact h120 q3)
        rw [hN] at hmx ⊢
        have c1 := ref1num_any s w hs
        obtain ⟨o, ho⟩ : ∃ o, num10 s.data.toList = o := ⟨_, rfl⟩
        rw [ho] at hmx c1 ⊢
        have C1 := Lib.hid c1
        obtain ⟨m0, m1⟩ := hmx
        clear hN ho c1 h48 h120
        go_enter Tryd.func25, Tryd.ntmps25
        go_wp2_with (first | (go_at_call 38; refine C1.out.mono ?_; rintro e w2 ⟨rfl, rfl⟩) | fail)
        go_ret2
        exact ⟨rfl, rfl⟩
    · replace b0 : (((s[0]'hp0).toNat : Int) == 48) = false := by rw [b0]; simp [h48]
      have hN := num_ten (s := s) (fun q => by obtain ⟨_, q3, _⟩ := (pre_iff s).1 q.2; exact h48 q3)
      rw [hN] at hmx ⊢
      have c1 := ref1num_any s w hs
      obtain ⟨o, ho⟩ : ∃ o, num10 s.data.toList = o := ⟨_, rfl⟩
      rw [ho] at hmx c1 ⊢
      have C1 := Lib.hid c1
      obtain ⟨m0, m1⟩ := hmx
      clear hN ho c1 h48 b1
      go_enter Tryd.func25, Tryd.ntmps25
      go_wp2_with (first | (go_at_call 38; refine C1.out.mono ?_; rintro e w2 ⟨rfl, rfl⟩) | fail)
      go_ret2
      exact ⟨rfl, rfl⟩
  · have i2 : ¬ (2 : Int) < (s.size : Int) := by omega
    have hN := num_ten (s := s) (fun q => h2 q.1)
    rw [hN] at hmx ⊢
    have c1 := ref1num_any s w hs
    obtain ⟨o, ho⟩ : ∃ o, num10 s.data.toList = o := ⟨_, rfl⟩
    rw [ho] at hmx c1 ⊢
    have C1 := Lib.hid c1
    obtain ⟨m0, m1⟩ := hmx
    clear hN ho c1
    go_enter Tryd.func25, Tryd.ntmps25
    go_wp2_with (first | (go_at_call 38; refine C1.out.mono ?_; rintro e w2 ⟨rfl, rfl⟩) | fail)
    go_ret2
    exact ⟨rfl, rfl⟩
end Go.Proofs.YtoknkgeojhekoaaDoor
