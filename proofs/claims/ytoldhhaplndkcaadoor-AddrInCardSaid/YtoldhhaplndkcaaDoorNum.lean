/- The document's Number. -/
import Derived.Test.YtoldhhaplndkcaaDoorStrs
namespace Go.Proofs.YtoldhhaplndkcaaDoor
open Go.RowKit Go.Shelf Go.Deep
set_option linter.unusedVariables false
set_option linter.unusedSimpArgs false

set_option maxRecDepth 100000 in
set_option maxHeartbeats 3200000 in
theorem rnumber_any (s : ByteArray) (most : Nat) (w : World) (hs : s.size ≤ 4611686018427387904) (hm : most ≤ 4294967295) : Calls Tryd.prog 32 #[.string s, .int .u64 most] w fun e w' => e = .returned (.tuple #[.int .u64 (((numD most s.data.toList).getD 0 : Nat) : Int), .bool (numD most s.data.toList).isSome]) ∧ w = w' := by
  obtain ⟨R, hR⟩ : ∃ R, numD most s.data.toList = R := ⟨_, rfl⟩
  rw [hR]
  have HR := Lib.hid hR
  have m0 : (0 : Int) ≤ (most : Int) := by omega
  have m9 : (most : Int) ≤ 4294967295 := by omega
  clear hR
  by_cases h0 : s.size = 0
  · have z0 : ((s.size : Int) == 0) = true := beq_iff_eq.2 (by omega)
    have hRv : R = none := by
      rw [← HR.out]
      unfold numD
      rw [if_pos (.inl (List.length_eq_zero_iff.1 (by rw [size_list]; exact h0)))]
    have HRv := Lib.hid hRv
    clear hRv h0
    go_enter Tryd.func32, Tryd.ntmps32
    go_wp2_with fail
    go_ret2
    rw [HRv.out]
    exact ⟨rfl, rfl⟩
  · have z0 : ((s.size : Int) == 0) = false := beq_eq_false_iff_ne.2 (by omega)
    have hp : 0 < s.size := by omega
    have hz : (0 : Int) < (s.size : Int) := by omega
    have hne : ¬ s.data.toList = [] := fun e => by
      have := size_list s
      rw [e] at this
      exact h0 this.symm
    have hhd : s.data.toList.head? = some s[0] := by
      have := drop_byte hp
      rw [List.drop_zero] at this
      rw [this]
      rfl
    obtain ⟨b0, hb0⟩ : ∃ b, s[0] = b := ⟨_, rfl⟩
    rw [hb0] at hhd
    by_cases h1 : 1 < s.size
    · have z1 : (s.size : Int) > 1 := by omega
      by_cases h48 : b0 = 48
      · have z2 : ((b0.toNat : Int) == 48) = true := by rw [h48]; rfl
        have hRv : R = none := by
          rw [← HR.out]
          unfold numD
          rw [if_pos (.inr ⟨by rw [size_list]; exact h1, by rw [hhd, h48]⟩)]
        have HRv := Lib.hid hRv
        clear hRv h0 hhd h48 hne h1
        go_enter Tryd.func32, Tryd.ntmps32
        go_wp2_with fail
        go_ret2
        rw [HRv.out]
        exact ⟨rfl, rfl⟩
      · have z2 : ((b0.toNat : Int) == 48) = false := by
          rw [beq_eq_false_iff_ne]
          intro e
          exact h48 (UInt8.toNat_inj.1 (by show b0.toNat = 48; omega))
        have hRv : numM most s.data.toList 0 = R := by
          rw [← HR.out]
          unfold numD
          rw [if_neg (by
            rw [hhd]
            rintro (h | ⟨_, h2⟩)
            · exact hne h
            · exact h48 (Option.some.inj h2))]
        have HRv := Lib.hid hRv
        clear hRv h0 hhd h48 hne h1
        go_enter Tryd.func32, Tryd.ntmps32
        go_wp2_with fail
        go_loopg [6, 7] s.size (fun g s6 s7 wr => ∃ k v : Nat, k + g = s.size ∧ s6 = .int .u64 v ∧ s7 = .int .i64 k ∧ v ≤ most ∧ Aside (numM most (s.data.toList.drop k) v = R) ∧ w = wr)
        case atStart => exact ⟨0, 0, by omega, rfl, rfl, by omega, by
            show _ = _
            rw [List.drop_zero]
            exact HRv.out, rfl⟩
        case round =>
          obtain ⟨k, v, hk, rfl, rfl, hv, hA, rfl⟩ := hrel
          have k0 : (0 : Int) ≤ (k : Int) := by omega
          have v0 : (0 : Int) ≤ (v : Int) := by omega
          have v9 : (v : Int) ≤ 4294967295 := by omega
          cases gk with
          | zero =>
            have k1 : ¬ (k : Int) < (s.size : Int) := by omega
            have hA2 := hA.out
            rw [List.drop_of_length_le (by rw [size_list]; omega)] at hA2
            have HF := Lib.hid (show R = some v from hA2.symm)
            clear hA2 hA
            go_wp2_with fail
            go_ret2
            rw [HF.out]
            exact ⟨rfl, rfl⟩
          | succ g =>
            have hlt : k < s.size := by omega
            have k1 : (k : Int) < (s.size : Int) := by omega
            have hA2 := hA.out
            rw [drop_byte hlt] at hA2
            obtain ⟨b, hb⟩ : ∃ b, s[k] = b := ⟨_, rfl⟩
            rw [hb] at hA2
            have hb9 := b.toNat_lt
            unfold numM at hA2
            cases hD : isD b with
            | false =>
              rw [if_pos hD] at hA2
              have HF := Lib.hid hA2.symm
              by_cases hlo : b.toNat < 48
              · have d1 : decide ((b.toNat : Int) < 48) = true := decide_eq_true (by omega)
                clear hA2 hA hD hb9 hlo
                go_wp2_with fail
                go_ret2
                rw [HF.out]
                exact ⟨rfl, rfl⟩
              · have d1 : decide ((b.toNat : Int) < 48) = false := decide_eq_false (by omega)
                have d2 : decide ((b.toNat : Int) > 57) = true := decide_eq_true (by
                  unfold isD at hD
                  simp at hD
                  have := hD (by omega)
                  omega)
                clear hA2 hA hD hb9 hlo
                go_wp2_with fail
                go_ret2
                rw [HF.out]
                exact ⟨rfl, rfl⟩
            | true =>
              rw [if_neg (by rw [hD]; decide)] at hA2
              have hdg := hD
              unfold isD at hdg
              simp only [Bool.and_eq_true, decide_eq_true_eq] at hdg
              have d1 : (48 : Int) ≤ (b.toNat : Int) := by omega
              have d2 : (b.toNat : Int) ≤ 57 := by omega
              have d3 : decide ((b.toNat : Int) < 48) = false := decide_eq_false (by omega)
              have d4 : decide ((b.toNat : Int) > 57) = false := decide_eq_false (by omega)
              obtain ⟨y, hy⟩ : ∃ y, v * 10 + (b.toNat - 48) = y := ⟨_, rfl⟩
              have hyI : 10 * (v : Int) + ((b.toNat : Int) - 48) = (y : Int) := by omega
              have hy9 : (y : Int) ≤ 42949672959 := by omega
              have hy0 : (0 : Int) ≤ (y : Int) := by omega
              rw [hy] at hA2
              by_cases hbig : most < y
              · have e1 : (y : Int) > (most : Int) := by omega
                rw [if_pos hbig] at hA2
                have HF := Lib.hid hA2.symm
                clear hA2 hA hdg hD hy hbig hb9
                go_wp2_with fail
                go_ret2
                rw [HF.out]
                exact ⟨rfl, rfl⟩
              · have e1 : ¬ (y : Int) > (most : Int) := by omega
                rw [if_neg hbig] at hA2
                have HF := Lib.hid hA2
                clear hA2 hA hdg hD hy hbig hb9
                go_wp2_with fail
                go_roundg g
                case measure => omega
                case rel => exact ⟨k + 1, y, by omega, by go_num, by go_num, by omega, HF.out, rfl⟩
    · have z1 : ¬ (s.size : Int) > 1 := by omega
      have hRv : numM most s.data.toList 0 = R := by
        rw [← HR.out]
        unfold numD
        rw [if_neg (by
          rintro (h | ⟨h2, _⟩)
          · exact hne h
          · rw [size_list] at h2; omega)]
      have HRv := Lib.hid hRv
      clear hRv h0 hhd hne h1
      go_enter Tryd.func32, Tryd.ntmps32
      go_wp2_with fail
      go_loopg [6, 7] s.size (fun g s6 s7 wr => ∃ k v : Nat, k + g = s.size ∧ s6 = .int .u64 v ∧ s7 = .int .i64 k ∧ v ≤ most ∧ Aside (numM most (s.data.toList.drop k) v = R) ∧ w = wr)
      case atStart => exact ⟨0, 0, by omega, rfl, rfl, by omega, by
          show _ = _
          rw [List.drop_zero]
          exact HRv.out, rfl⟩
      case round =>
        obtain ⟨k, v, hk, rfl, rfl, hv, hA, rfl⟩ := hrel
        have k0 : (0 : Int) ≤ (k : Int) := by omega
        have v0 : (0 : Int) ≤ (v : Int) := by omega
        have v9 : (v : Int) ≤ 4294967295 := by omega
        cases gk with
        | zero =>
          have k1 : ¬ (k : Int) < (s.size : Int) := by omega
          have hA2 := hA.out
          rw [List.drop_of_length_le (by rw [size_list]; omega)] at hA2
          have HF := Lib.hid (show R = some v from hA2.symm)
          clear hA2 hA
          go_wp2_with fail
          go_ret2
          rw [HF.out]
          exact ⟨rfl, rfl⟩
        | succ g =>
          have hlt : k < s.size := by omega
          have k1 : (k : Int) < (s.size : Int) := by omega
          have hA2 := hA.out
          rw [drop_byte hlt] at hA2
          obtain ⟨b, hb⟩ : ∃ b, s[k] = b := ⟨_, rfl⟩
          rw [hb] at hA2
          have hb9 := b.toNat_lt
          unfold numM at hA2
          cases hD : isD b with
          | false =>
            rw [if_pos hD] at hA2
            have HF := Lib.hid hA2.symm
            by_cases hlo : b.toNat < 48
            · have d1 : decide ((b.toNat : Int) < 48) = true := decide_eq_true (by omega)
              clear hA2 hA hD hb9 hlo
              go_wp2_with fail
              go_ret2
              rw [HF.out]
              exact ⟨rfl, rfl⟩
            · have d1 : decide ((b.toNat : Int) < 48) = false := decide_eq_false (by omega)
              have d2 : decide ((b.toNat : Int) > 57) = true := decide_eq_true (by
                unfold isD at hD
                simp at hD
                have := hD (by omega)
                omega)
              clear hA2 hA hD hb9 hlo
              go_wp2_with fail
              go_ret2
              rw [HF.out]
              exact ⟨rfl, rfl⟩
          | true =>
            rw [if_neg (by rw [hD]; decide)] at hA2
            have hdg := hD
            unfold isD at hdg
            simp only [Bool.and_eq_true, decide_eq_true_eq] at hdg
            have d1 : (48 : Int) ≤ (b.toNat : Int) := by omega
            have d2 : (b.toNat : Int) ≤ 57 := by omega
            have d3 : decide ((b.toNat : Int) < 48) = false := decide_eq_false (by omega)
            have d4 : decide ((b.toNat : Int) > 57) = false := decide_eq_false (by omega)
            obtain ⟨y, hy⟩ : ∃ y, v * 10 + (b.toNat - 48) = y := ⟨_, rfl⟩
            have hyI : 10 * (v : Int) + ((b.toNat : Int) - 48) = (y : Int) := by omega
            have hy9 : (y : Int) ≤ 42949672959 := by omega
            have hy0 : (0 : Int) ≤ (y : Int) := by omega
            rw [hy] at hA2
            by_cases hbig : most < y
            · have e1 : (y : Int) > (most : Int) := by omega
              rw [if_pos hbig] at hA2
              have HF := Lib.hid hA2.symm
              clear hA2 hA hdg hD hy hbig hb9
              go_wp2_with fail
              go_ret2
              rw [HF.out]
              exact ⟨rfl, rfl⟩
            · have e1 : ¬ (y : Int) > (most : Int) := by omega
              rw [if_neg hbig] at hA2
              have HF := Lib.hid hA2
              clear hA2 hA hdg hD hy hbig hb9
              go_wp2_with fail
              go_roundg g
              case measure => omega
              case rel => exact ⟨k + 1, y, by omega, by go_num, by go_num, by omega, HF.out, rfl⟩
end Go.Proofs.YtoldhhaplndkcaaDoor
