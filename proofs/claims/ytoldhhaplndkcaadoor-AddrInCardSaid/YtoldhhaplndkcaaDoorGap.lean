/- The document's gap. -/
import Derived.Test.YtoldhhaplndkcaaDoorReadG
namespace Go.Proofs.YtoldhhaplndkcaaDoor
open Go.RowKit Go.Shelf Go.Deep
set_option linter.unusedVariables false
set_option linter.unusedSimpArgs false

theorem beq58 (b : UInt8) : ((58 : UInt8) == b) = decide (b = 58) := by
  rw [Bool.eq_iff_iff, beq_iff_eq, decide_eq_true_iff]
  exact eq_comm
theorem occ_two {s : ByteArray} {k : Nat} (h : k + 1 < s.size) : Lib.occAt s.data.toList [58, 58] k = (decide (s[k] = 58) && decide (s[k + 1] = 58)) := by
  unfold Lib.occAt
  rw [drop_byte (by omega), drop_byte h]
  show ((58 : UInt8) == s[k] && ((58 : UInt8) == s[k + 1] && ([] : List UInt8).isPrefixOf _)) = _
  rw [beq58, beq58]
  simp
theorem occ_end {s : ByteArray} {k : Nat} (h : ¬ k + 1 < s.size) : Lib.occAt s.data.toList [58, 58] k = false := by
  unfold Lib.occAt
  have hl : (s.data.toList.drop k).length ≤ 1 := by rw [List.length_drop, size_list]; omega
  match hd : s.data.toList.drop k, hl with
  | [], _ => rfl
  | [b], _ =>
    show ((58 : UInt8) == b && ([58] : List UInt8).isPrefixOf []) = false
    simp
set_option maxRecDepth 100000 in
set_option maxHeartbeats 3200000 in
theorem rgap_any (s : ByteArray) (w : World) (hs : s.size ≤ 1048576) : Calls Tryd.prog 38 #[.string s] w fun e w' => e = .returned (.int .i64 (Lib.index s.data.toList [58, 58])) ∧ w = w' := by
  have s0 : (0 : Int) ≤ (s.size : Int) := by omega
  go_enter Tryd.func38, Tryd.ntmps38
  go_wp2_with fail
  go_loopg [3] (s.size + 1) (fun g s3 wr => ∃ k : Nat, k + g = s.size + 1 ∧ s3 = .int .i64 k ∧ Aside (∀ j, j < k → Lib.occAt s.data.toList [58, 58] j = false) ∧ w = wr)
  case atStart => exact ⟨0, by omega, rfl, (by
      show ∀ _, _
      intro j h
      omega), rfl⟩
  case round =>
    obtain ⟨k, hk, rfl, hA, rfl⟩ := hrel
    have k0 : (0 : Int) ≤ (k : Int) := by omega
    have HA := Lib.hid hA.out
    clear hA
    by_cases hlt : k + 1 < s.size
    · have k1 : (k : Int) + 1 < (s.size : Int) := by omega
      have k2 : (k : Int) < (s.size : Int) := by omega
      have k3 : k < s.size := by omega
      obtain ⟨g, rfl⟩ : ∃ g, gk = g + 1 := ⟨gk - 1, by omega⟩
      have ho := occ_two hlt
      obtain ⟨a, ha⟩ : ∃ a, s[k] = a := ⟨_, rfl⟩
      obtain ⟨b, hb⟩ : ∃ b, s[k + 1] = b := ⟨_, rfl⟩
      rw [ha, hb] at ho
      have t1 : ((k : Int) + 1).toNat = k + 1 := by omega
      have next : Lib.occAt s.data.toList [58, 58] k = false → ∀ j, j < k + 1 → Lib.occAt s.data.toList [58, 58] j = false := fun h j hj => by
        by_cases e : j = k
        · rw [e]; exact h
        · exact HA.out j (by omega)
      by_cases ea : a = 58
      · have da : ((a.toNat : Int) == 58) = true := by rw [ea]; rfl
        by_cases eb : b = 58
        · have db : ((b.toNat : Int) == 58) = true := by rw [eb]; rfl
          have hi : Lib.index s.data.toList [58, 58] = (k : Int) := Lib.index_first (by rw [size_list]; omega) (by rw [ho]; simp [ea, eb]) HA.out
          have HI := Lib.hid hi
          clear ho next ea eb hi
          go_wp2_with fail
          go_ret
          rw [HI.out]
          exact ⟨rfl, rfl⟩
        · have db : ((b.toNat : Int) == 58) = false := by
            rw [beq_eq_false_iff_ne]
            intro h
            exact eb (UInt8.toNat_inj.1 (by show b.toNat = 58; omega))
          have HN := Lib.hid (next (by rw [ho]; simp [eb]))
          clear ho next ea eb
          go_wp2_with fail
          go_roundg g
          case measure => omega
          case rel => exact ⟨k + 1, by omega, by go_num, HN.out, rfl⟩
      · have da : ((a.toNat : Int) == 58) = false := by
          rw [beq_eq_false_iff_ne]
          intro h
          exact ea (UInt8.toNat_inj.1 (by show a.toNat = 58; omega))
        have HN := Lib.hid (next (by rw [ho]; simp [ea]))
        clear ho next ea
        go_wp2_with fail
        go_roundg g
        case measure => omega
        case rel => exact ⟨k + 1, by omega, by go_num, HN.out, rfl⟩
    · have k1 : ¬ (k : Int) + 1 < (s.size : Int) := by omega
      have hi : Lib.index s.data.toList [58, 58] = -1 := Lib.index_none fun j _ => by
        by_cases e : j < k
        · exact HA.out j e
        · exact occ_end (by omega)
      have HI := Lib.hid hi
      clear hi
      go_wp2_with fail
      go_ret
      rw [HI.out]
      exact ⟨rfl, rfl⟩
end Go.Proofs.YtoldhhaplndkcaaDoor
