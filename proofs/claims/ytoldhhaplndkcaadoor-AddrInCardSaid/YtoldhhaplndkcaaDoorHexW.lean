/- Digits of base 16: the program's and the document's; the document's group. -/
import Derived.Test.YtoldhhaplndkcaaDoorHexL
namespace Go.Proofs.YtoldhhaplndkcaaDoor
open Go.RowKit Go.Shelf Go.Deep
set_option linter.unusedVariables false
set_option linter.unusedSimpArgs false

set_option maxHeartbeats 1000000 in
theorem digit_any (b : UInt8) (w : World) : Calls Tryd.prog 96 #[.int .u8 b.toNat] w fun e w' => e = .returned (.int .i64 (dgI b)) ∧ w' = w := by
  have hb9 := b.toNat_lt
  have b0 : (0 : Int) ≤ (b.toNat : Int) := by omega
  have b9 : (b.toNat : Int) ≤ 255 := by omega
  obtain ⟨D, hD⟩ : ∃ D, dgI b = D := ⟨_, rfl⟩
  rw [hD]
  have HD := Lib.hid hD
  clear hD
  by_cases h1 : b.toNat < 48
  · have fgeq48 : ¬ (b.toNat : Int) ≥ 48 := by omega
    have hv : D = -1 := by
      rw [← HD.out]
      unfold dgI hxB
      rw [if_neg (by omega), if_neg (by omega)]
    have HV := Lib.hid hv
    clear hv hb9 h1
    go_enter Tryd.func96, Tryd.ntmps96
    go_wp2_with fail
    go_ret
    rw [HV.out]
    exact ⟨rfl, rfl⟩
  by_cases h2 : b.toNat ≤ 57
  · have fgeq48 : (b.toNat : Int) ≥ 48 := by omega
    have fleq57 : (b.toNat : Int) ≤ 57 := by omega
    have lo : ((48 : Int)) ≤ (b.toNat : Int) := by omega
    have hv : D = (b.toNat : Int) - 48 := by
      rw [← HD.out]
      unfold dgI hxB
      rw [if_pos (by omega)]
      show (((b.toNat - 48 : Nat)) : Int) = _
      omega
    have HV := Lib.hid hv
    clear hv hb9 h1 h2
    go_enter Tryd.func96, Tryd.ntmps96
    go_wp2_with fail
    go_ret
    rw [HV.out]
    exact ⟨rfl, rfl⟩
  by_cases h3 : b.toNat < 97
  · have fgeq48 : (b.toNat : Int) ≥ 48 := by omega
    have fleq57 : ¬ (b.toNat : Int) ≤ 57 := by omega
    have fgeq97 : ¬ (b.toNat : Int) ≥ 97 := by omega
    have hv : D = -1 := by
      rw [← HD.out]
      unfold dgI hxB
      rw [if_neg (by omega), if_neg (by omega)]
    have HV := Lib.hid hv
    clear hv hb9 h1 h2 h3
    go_enter Tryd.func96, Tryd.ntmps96
    go_wp2_with fail
    go_ret
    rw [HV.out]
    exact ⟨rfl, rfl⟩
  by_cases h4 : b.toNat ≤ 102
  · have fgeq48 : (b.toNat : Int) ≥ 48 := by omega
    have fleq57 : ¬ (b.toNat : Int) ≤ 57 := by omega
    have fgeq97 : (b.toNat : Int) ≥ 97 := by omega
    have fleq102 : (b.toNat : Int) ≤ 102 := by omega
    have lo : ((97 : Int)) ≤ (b.toNat : Int) := by omega
    have hv : D = (b.toNat : Int) - 97 + 10 := by
      rw [← HD.out]
      unfold dgI hxB
      rw [if_neg (by omega), if_pos (by omega)]
      show (((b.toNat - 87 : Nat)) : Int) = _
      omega
    have HV := Lib.hid hv
    clear hv hb9 h1 h2 h3 h4
    go_enter Tryd.func96, Tryd.ntmps96
    go_wp2_with fail
    go_ret
    rw [HV.out]
    exact ⟨rfl, rfl⟩
  have fgeq48 : (b.toNat : Int) ≥ 48 := by omega
  have fleq57 : ¬ (b.toNat : Int) ≤ 57 := by omega
  have fgeq97 : (b.toNat : Int) ≥ 97 := by omega
  have fleq102 : ¬ (b.toNat : Int) ≤ 102 := by omega
  have hv : D = -1 := by
    rw [← HD.out]
    unfold dgI hxB
    rw [if_neg (by omega), if_neg (by omega)]
  have HV := Lib.hid hv
  clear hv hb9 h1 h2 h3 h4
  go_enter Tryd.func96, Tryd.ntmps96
  go_wp2_with fail
  go_ret
  rw [HV.out]
  exact ⟨rfl, rfl⟩
set_option maxHeartbeats 1000000 in
theorem rdigit_any (b : UInt8) (w : World) : Calls Tryd.prog 79 #[.int .u8 b.toNat] w fun e w' => e = .returned (.int .i64 (dgI b)) ∧ w' = w := by
  have hb9 := b.toNat_lt
  have b0 : (0 : Int) ≤ (b.toNat : Int) := by omega
  have b9 : (b.toNat : Int) ≤ 255 := by omega
  obtain ⟨D, hD⟩ : ∃ D, dgI b = D := ⟨_, rfl⟩
  rw [hD]
  have HD := Lib.hid hD
  clear hD
  by_cases h1 : b.toNat < 48
  · have fgeq48 : ¬ (b.toNat : Int) ≥ 48 := by omega
    have hv : D = -1 := by
      rw [← HD.out]
      unfold dgI hxB
      rw [if_neg (by omega), if_neg (by omega)]
    have HV := Lib.hid hv
    clear hv hb9 h1
    go_enter Tryd.func79, Tryd.ntmps79
    go_wp2_with fail
    go_ret
    rw [HV.out]
    exact ⟨rfl, rfl⟩
  by_cases h2 : b.toNat ≤ 57
  · have fgeq48 : (b.toNat : Int) ≥ 48 := by omega
    have fleq57 : (b.toNat : Int) ≤ 57 := by omega
    have lo : ((48 : Int)) ≤ (b.toNat : Int) := by omega
    have hv : D = (b.toNat : Int) - 48 := by
      rw [← HD.out]
      unfold dgI hxB
      rw [if_pos (by omega)]
      show (((b.toNat - 48 : Nat)) : Int) = _
      omega
    have HV := Lib.hid hv
    clear hv hb9 h1 h2
    go_enter Tryd.func79, Tryd.ntmps79
    go_wp2_with fail
    go_ret
    rw [HV.out]
    exact ⟨rfl, rfl⟩
  by_cases h3 : b.toNat < 97
  · have fgeq48 : (b.toNat : Int) ≥ 48 := by omega
    have fleq57 : ¬ (b.toNat : Int) ≤ 57 := by omega
    have fgeq97 : ¬ (b.toNat : Int) ≥ 97 := by omega
    have hv : D = -1 := by
      rw [← HD.out]
      unfold dgI hxB
      rw [if_neg (by omega), if_neg (by omega)]
    have HV := Lib.hid hv
    clear hv hb9 h1 h2 h3
    go_enter Tryd.func79, Tryd.ntmps79
    go_wp2_with fail
    go_ret
    rw [HV.out]
    exact ⟨rfl, rfl⟩
  by_cases h4 : b.toNat ≤ 102
  · have fgeq48 : (b.toNat : Int) ≥ 48 := by omega
    have fleq57 : ¬ (b.toNat : Int) ≤ 57 := by omega
    have fgeq97 : (b.toNat : Int) ≥ 97 := by omega
    have fleq102 : (b.toNat : Int) ≤ 102 := by omega
    have lo : ((97 : Int)) ≤ (b.toNat : Int) := by omega
    have hv : D = (b.toNat : Int) - 97 + 10 := by
      rw [← HD.out]
      unfold dgI hxB
      rw [if_neg (by omega), if_pos (by omega)]
      show (((b.toNat - 87 : Nat)) : Int) = _
      omega
    have HV := Lib.hid hv
    clear hv hb9 h1 h2 h3 h4
    go_enter Tryd.func79, Tryd.ntmps79
    go_wp2_with fail
    go_ret
    rw [HV.out]
    exact ⟨rfl, rfl⟩
  have fgeq48 : (b.toNat : Int) ≥ 48 := by omega
  have fleq57 : ¬ (b.toNat : Int) ≤ 57 := by omega
  have fgeq97 : (b.toNat : Int) ≥ 97 := by omega
  have fleq102 : ¬ (b.toNat : Int) ≤ 102 := by omega
  have hv : D = -1 := by
    rw [← HD.out]
    unfold dgI hxB
    rw [if_neg (by omega), if_neg (by omega)]
  have HV := Lib.hid hv
  clear hv hb9 h1 h2 h3 h4
  go_enter Tryd.func79, Tryd.ntmps79
  go_wp2_with fail
  go_ret
  rw [HV.out]
  exact ⟨rfl, rfl⟩
theorem dgI_none {b : UInt8} (h : hxB b = none) : dgI b = -1 := by
  unfold dgI
  rw [h]
theorem dgI_some {b : UInt8} {d : Nat} (h : hxB b = some d) : dgI b = (d : Int) := by
  unfold dgI
  rw [h]
set_option maxRecDepth 100000 in
set_option maxHeartbeats 3200000 in
theorem rgroup_any (s : ByteArray) (w : World) (hs : s.size ≤ 4611686018427387904) : Calls Tryd.prog 57 #[.string s] w fun e w' => e = .returned (.tuple #[.int .i64 (((grpL s.data.toList).getD 0 : Nat) : Int), .bool (grpL s.data.toList).isSome]) ∧ w = w' := by
  obtain ⟨R, hR⟩ : ∃ R, grpL s.data.toList = R := ⟨_, rfl⟩
  rw [hR]
  unfold grpL at hR
  rw [size_list] at hR
  have s0 : (0 : Int) ≤ (s.size : Int) := by omega
  by_cases h1 : s.size < 1
  · have d1 : decide ((s.size : Int) < 1) = true := decide_eq_true (by omega)
    rw [if_pos (.inl h1)] at hR
    have HF := Lib.hid hR.symm
    clear hR h1
    go_enter Tryd.func57, Tryd.ntmps57
    go_wp2_with fail
    go_ret2
    rw [HF.out]
    exact ⟨rfl, rfl⟩
  have d1 : decide ((s.size : Int) < 1) = false := decide_eq_false (by omega)
  by_cases h4 : 4 < s.size
  · have d2 : decide ((s.size : Int) > 4) = true := decide_eq_true (by omega)
    rw [if_pos (.inr h4)] at hR
    have HF := Lib.hid hR.symm
    clear hR h1 h4
    go_enter Tryd.func57, Tryd.ntmps57
    go_wp2_with fail
    go_ret2
    rw [HF.out]
    exact ⟨rfl, rfl⟩
  have d2 : decide ((s.size : Int) > 4) = false := decide_eq_false (by omega)
  rw [if_neg (by omega)] at hR
  have HR := Lib.hid hR
  have s4 : s.size ≤ 4 := by omega
  clear hR h1 h4
  go_enter Tryd.func57, Tryd.ntmps57
  go_wp2_with fail
  go_loopg [4, 5, 6] s.size (fun g s4 s5 s6 wr => ∃ k v : Nat, k + g = s.size ∧ s4 = .int .i64 v ∧ s5 = .int .i64 k ∧ v ≤ 1000000 ∧ Aside (v + 1 ≤ 16 ^ k) ∧ Aside (hxF (s.data.toList.drop k) v = R) ∧ w = wr)
  case atStart => exact ⟨0, 0, by omega, rfl, rfl, by omega, by
      show _ ≤ _
      decide, by
      show _ = _
      rw [List.drop_zero]
      exact HR.out, rfl⟩
  case round =>
    obtain ⟨k, v, hk, rfl, rfl, hv, hp, hA, rfl⟩ := hrel
    have k0 : (0 : Int) ≤ (k : Int) := by omega
    have v0 : (0 : Int) ≤ (v : Int) := by omega
    have v9 : (v : Int) ≤ 1000000 := by omega
    have HP := Lib.hid hp.out
    cases gk with
    | zero =>
      have k1 : ¬ (k : Int) < (s.size : Int) := by omega
      have hA2 := hA.out
      rw [List.drop_of_length_le (by rw [size_list]; omega)] at hA2
      have HF := Lib.hid (show R = some v from hA2.symm)
      clear hA2 hA hp
      go_wp2_with fail
      go_ret2
      rw [HF.out]
      exact ⟨rfl, rfl⟩
    | succ g =>
      have hlt : k < s.size := by omega
      have k1 : (k : Int) < (s.size : Int) := by omega
      have hA2 := hA.out
      rw [drop_byte hlt] at hA2
      obtain ⟨b, hb⟩ : ∃ b, s[k] = b := ⟨_, rfl⟩
      rw [hb] at hA2
      have cd := fun W => rdigit_any b W
      cases hx : hxB b with
      | none =>
        rw [dgI_none hx] at cd
        have Cd := Lib.hid cd
        rw [hxF_none _ _ hx] at hA2
        have HF := Lib.hid hA2.symm
        clear hA2 hA hx cd hp
        go_wp2_with fail
        refine (Cd.out _).mono ?_
        rintro e w2 ⟨rfl, rfl⟩
        go_wp2_with fail
        go_ret2
        rw [HF.out]
        exact ⟨rfl, rfl⟩
      | some d =>
        rw [dgI_some hx] at cd
        have Cd := Lib.hid cd
        have hd := hxB_lt hx
        rw [hxF_some _ _ hx] at hA2
        obtain ⟨y, hy⟩ : ∃ y, 16 * v + d = y := ⟨_, rfl⟩
        rw [hy] at hA2
        have hyI : 16 * (v : Int) + (d : Int) = (y : Int) := by omega
        have hy2 : y + 1 ≤ 16 ^ (k + 1) := by
          have := HP.out
          rw [Nat.pow_succ]
          omega
        have hy9 : y ≤ 1000000 := by
          have : 16 ^ (k + 1) ≤ 16 ^ 4 := Nat.pow_le_pow_right (by decide) (by omega)
          omega
        have y9 : (y : Int) ≤ 1000000 := by omega
        have y0 : (0 : Int) ≤ (y : Int) := by omega
        have HF := Lib.hid hA2
        have HY2 := Lib.hid hy2
        have dd : decide ((d : Int) < 0) = false := decide_eq_false (by omega)
        have d0 : (0 : Int) ≤ (d : Int) := by omega
        have d9 : (d : Int) ≤ 15 := by omega
        clear hA2 hA hx cd hp hy hy2 hd
        go_wp2_with fail
        refine (Cd.out _).mono ?_
        rintro e w2 ⟨rfl, rfl⟩
        go_wp2_with fail
        go_roundg g
        case measure => omega
        case rel => exact ⟨k + 1, y, by omega, by go_num, by go_num, hy9, HY2.out, HF.out, rfl⟩
end Go.Proofs.YtoldhhaplndkcaaDoor
