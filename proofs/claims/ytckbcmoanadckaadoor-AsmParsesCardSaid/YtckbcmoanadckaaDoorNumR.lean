/- The document's Number, over a run of digits. -/
import Derived.Test.YtckbcmoanadckaaDoorAt
import Derived.Deep.LoopGhost
namespace Go.Proofs.YtckbcmoanadckaaDoor
open Go.RowKit Go.Shelf Go.Deep
set_option linter.unusedVariables false
set_option linter.unusedSimpArgs false

def maxU : Nat := 4294967295
/-- On with a number: none if it grows too great. -/
def numF : List UInt8 → Nat → Option Nat
  | [], v => some v
  | b :: r, v => if maxU < v * 10 + (b.toNat - 48) then none else numF r (v * 10 + (b.toNat - 48))
/-- A run of digits as a number. -/
def numR (l : List UInt8) : Option Nat := if l.length = 0 ∨ (1 < l.length ∧ l.head? = some 48) then none else numF l 0
theorem numF_le : ∀ (l : List UInt8) (v x : Nat), v ≤ maxU → numF l v = some x → x ≤ maxU
  | [], v, x, hv, h => by
    have h : some v = some x := h
    cases h
    exact hv
  | b :: r, v, x, hv, h => by
    unfold numF at h
    split at h
    · cases h
    · exact numF_le r _ x (by omega) h
set_option maxRecDepth 100000 in
set_option maxHeartbeats 3200000 in
theorem rnum_any (s : ByteArray) (w : World) (hd : ∀ b ∈ s.data.toList, isD b = true) (hs : s.size ≤ 4611686018427387904) : Calls Tryd.prog 58 #[.string s, .int .u64 4294967295] w fun e w' => e = .returned (.tuple #[.int .u64 ((numR s.data.toList).getD 0 : Nat), .bool (numR s.data.toList).isSome]) ∧ w = w' := by
  obtain ⟨R, hR⟩ : ∃ R, numR s.data.toList = R := ⟨_, rfl⟩
  rw [hR]
  have HD := Lib.hid hd
  have HR := Lib.hid hR
  clear hd hR
  by_cases h0 : s.size = 0
  · have z0 : (s.size : Int) = 0 := by omega
    have hRv : R = none := by
      rw [← HR.out]
      unfold numR
      rw [if_pos (.inl (by rw [size_list]; exact h0))]
    have HRv := Lib.hid hRv
    clear hRv h0
    go_enter Tryd.func58, Tryd.ntmps58
    go_wp2_with fail
    go_ret2
    rw [HRv.out]
    exact ⟨rfl, rfl⟩
  · have z0 : ((s.size : Int) == 0) = false := beq_eq_false_iff_ne.2 (by omega)
    have hp : 0 < s.size := by omega
    have hz : (0 : Int) < (s.size : Int) := by omega
    have hhd : s.data.toList.head? = some s[0] := by
      have := drop_byte hp
      rw [List.drop_zero] at this
      rw [this]
      rfl
    obtain ⟨b0, hb0⟩ : ∃ b, s[0] = b := ⟨_, rfl⟩
    rw [hb0] at hhd
    by_cases hlead : 1 < s.size ∧ b0 = 48
    · have z1 : (s.size : Int) > 1 := by omega
      have z2 : (b0.toNat : Int) = 48 := by rw [hlead.2]; rfl
      have hRv : R = none := by
        rw [← HR.out]
        unfold numR
        rw [if_pos (.inr ⟨by rw [size_list]; exact hlead.1, by rw [hhd, hlead.2]⟩)]
      have HRv := Lib.hid hRv
      clear hRv h0 hlead hhd
      go_enter Tryd.func58, Tryd.ntmps58
      go_wp2_with fail
      go_ret2
      rw [HRv.out]
      exact ⟨rfl, rfl⟩
    · have hRv : numF s.data.toList 0 = R := by
        rw [← HR.out]
        unfold numR
        rw [if_neg (by
          rw [size_list, hhd]
          rintro (h | ⟨h1, h2⟩)
          · exact h0 h
          · exact hlead ⟨h1, Option.some.inj h2⟩)]
      have HRv := Lib.hid hRv
      have hb9 := b0.toNat_lt
      have guard : (decide ((s.size : Int) > 1) && ((b0.toNat : Int) == 48)) = false := by
        rw [Bool.and_eq_false_iff]
        by_cases h1 : 1 < s.size
        · refine .inr ?_
          have : ¬ b0 = 48 := fun e => hlead ⟨h1, e⟩
          have h3 : ¬ b0.toNat = 48 := fun e => this (UInt8.toNat_inj.1 e)
          simp
          omega
        · refine .inl (decide_eq_false (by omega))
      have LOOP : True := trivial
      clear hRv h0 hlead hhd hb9
      by_cases h1 : 1 < s.size
      · have z1 : (s.size : Int) > 1 := by omega
        have z2 : ((b0.toNat : Int) == 48) = false := by
          rw [decide_eq_true z1, Bool.true_and] at guard
          exact guard
        clear guard h1
        go_enter Tryd.func58, Tryd.ntmps58
        go_wp2_with fail
        go_loopg [6, 7] s.size (fun g s6 s7 wr => ∃ k v : Nat, k + g = s.size ∧ s6 = .int .u64 v ∧ s7 = .int .i64 k ∧ v ≤ 4294967295 ∧ Aside (numF (s.data.toList.drop k) v = R) ∧ w = wr)
        case atStart => exact ⟨0, 0, by omega, rfl, rfl, by omega, by
            show _ = _
            rw [List.drop_zero]
            exact HRv.out, rfl⟩
        case round =>
          obtain ⟨k, v, hk, rfl, rfl, hv, hA, rfl⟩ := hrel
          have k0 : (0 : Int) ≤ (k : Int) := by omega
          have v0 : (0 : Int) ≤ (v : Int) := by omega
          have v9 : (v : Int) ≤ 4294967295 := by omega
          cases gk with
          | zero =>
            have k1 : ¬ (k : Int) < (s.size : Int) := by omega
            have hA2 := hA.out
            rw [List.drop_of_length_le (by rw [size_list]; omega)] at hA2
            have HF := Lib.hid (show R = some v from hA2.symm)
            clear hA2 hA
            go_wp2_with fail
            go_ret2
            rw [HF.out]
            exact ⟨rfl, rfl⟩
          | succ g =>
            have hlt : k < s.size := by omega
            have k1 : (k : Int) < (s.size : Int) := by omega
            have hA2 := hA.out
            rw [drop_byte hlt] at hA2
            have hmem : s[k] ∈ s.data.toList := by
              have h := List.mem_of_mem_drop (i := k) (l := s.data.toList) (a := s[k]) (by rw [drop_byte hlt]; exact List.mem_cons_self ..)
              exact h
            have hdg := HD.out _ hmem
            unfold isD at hdg
            simp only [Bool.and_eq_true, decide_eq_true_eq] at hdg
            obtain ⟨b, hb⟩ : ∃ b, s[k] = b := ⟨_, rfl⟩
            rw [hb] at hA2 hdg
            have d1 : (48 : Int) ≤ (b.toNat : Int) := by omega
            have d2 : (b.toNat : Int) ≤ 57 := by omega
            have d3 : decide ((b.toNat : Int) < 48) = false := decide_eq_false (by omega)
            have d4 : decide ((b.toNat : Int) > 57) = false := decide_eq_false (by omega)
            have Hdg := Lib.hid hdg
            obtain ⟨y, hy⟩ : ∃ y, v * 10 + (b.toNat - 48) = y := ⟨_, rfl⟩
            have hyI : 10 * (v : Int) + ((b.toNat : Int) - 48) = (y : Int) := by omega
            have hy9 : (y : Int) ≤ 42949672959 := by omega
            have hy0 : (0 : Int) ≤ (y : Int) := by omega
            unfold numF at hA2
            rw [hy] at hA2
            have Hy := Lib.hid hyI
            by_cases hbig : maxU < y
            · have e1 : (y : Int) > 4294967295 := by unfold maxU at hbig; omega
              rw [if_pos hbig] at hA2
              have HF := Lib.hid hA2.symm
              clear hA2 hA hmem hdg hy hbig
              go_wp2_with fail
              go_ret2
              rw [HF.out]
              exact ⟨rfl, rfl⟩
            · have e1 : ¬ (y : Int) > 4294967295 := by unfold maxU at hbig; omega
              rw [if_neg hbig] at hA2
              have HF := Lib.hid hA2
              clear hA2 hA hmem hdg hy hbig
              go_wp2_with fail
              go_roundg g
              case measure => omega
              case rel => exact ⟨k + 1, y, by omega, by go_num, by go_num, by omega, HF.out, rfl⟩
      · have z1 : ¬ (s.size : Int) > 1 := by omega
        clear guard h1
        go_enter Tryd.func58, Tryd.ntmps58
        go_wp2_with fail
        go_loopg [6, 7] s.size (fun g s6 s7 wr => ∃ k v : Nat, k + g = s.size ∧ s6 = .int .u64 v ∧ s7 = .int .i64 k ∧ v ≤ 4294967295 ∧ Aside (numF (s.data.toList.drop k) v = R) ∧ w = wr)
        case atStart => exact ⟨0, 0, by omega, rfl, rfl, by omega, by
            show _ = _
            rw [List.drop_zero]
            exact HRv.out, rfl⟩
        case round =>
          obtain ⟨k, v, hk, rfl, rfl, hv, hA, rfl⟩ := hrel
          have k0 : (0 : Int) ≤ (k : Int) := by omega
          have v0 : (0 : Int) ≤ (v : Int) := by omega
          have v9 : (v : Int) ≤ 4294967295 := by omega
          cases gk with
          | zero =>
            have k1 : ¬ (k : Int) < (s.size : Int) := by omega
            have hA2 := hA.out
            rw [List.drop_of_length_le (by rw [size_list]; omega)] at hA2
            have HF := Lib.hid (show R = some v from hA2.symm)
            clear hA2 hA
            go_wp2_with fail
            go_ret2
            rw [HF.out]
            exact ⟨rfl, rfl⟩
          | succ g =>
            have hlt : k < s.size := by omega
            have k1 : (k : Int) < (s.size : Int) := by omega
            have hA2 := hA.out
            rw [drop_byte hlt] at hA2
            have hmem : s[k] ∈ s.data.toList := by
              have h := List.mem_of_mem_drop (i := k) (l := s.data.toList) (a := s[k]) (by rw [drop_byte hlt]; exact List.mem_cons_self ..)
              exact h
            have hdg := HD.out _ hmem
            unfold isD at hdg
            simp only [Bool.and_eq_true, decide_eq_true_eq] at hdg
            obtain ⟨b, hb⟩ : ∃ b, s[k] = b := ⟨_, rfl⟩
            rw [hb] at hA2 hdg
            have d1 : (48 : Int) ≤ (b.toNat : Int) := by omega
            have d2 : (b.toNat : Int) ≤ 57 := by omega
            have d3 : decide ((b.toNat : Int) < 48) = false := decide_eq_false (by omega)
            have d4 : decide ((b.toNat : Int) > 57) = false := decide_eq_false (by omega)
            have Hdg := Lib.hid hdg
            obtain ⟨y, hy⟩ : ∃ y, v * 10 + (b.toNat - 48) = y := ⟨_, rfl⟩
            have hyI : 10 * (v : Int) + ((b.toNat : Int) - 48) = (y : Int) := by omega
            have hy9 : (y : Int) ≤ 42949672959 := by omega
            have hy0 : (0 : Int) ≤ (y : Int) := by omega
            unfold numF at hA2
            rw [hy] at hA2
            have Hy := Lib.hid hyI
            by_cases hbig : maxU < y
            · have e1 : (y : Int) > 4294967295 := by unfold maxU at hbig; omega
              rw [if_pos hbig] at hA2
              have HF := Lib.hid hA2.symm
              clear hA2 hA hmem hdg hy hbig
              go_wp2_with fail
              go_ret2
              rw [HF.out]
              exact ⟨rfl, rfl⟩
            · have e1 : ¬ (y : Int) > 4294967295 := by unfold maxU at hbig; omega
              rw [if_neg hbig] at hA2
              have HF := Lib.hid hA2
              clear hA2 hA hmem hdg hy hbig
              go_wp2_with fail
              go_roundg g
              case measure => omega
              case rel => exact ⟨k + 1, y, by omega, by go_num, by go_num, by omega, HF.out, rfl⟩
end Go.Proofs.YtckbcmoanadckaaDoor
