/- addr.Parse4. -/
import Derived.Test.YtoldhhaplndkcaaDoorArr
import Derived.Lib.ParseIntB
namespace Go.Proofs.YtoldhhaplndkcaaDoor
open Go.RowKit Go.Shelf Go.Deep
set_option linter.unusedVariables false
set_option linter.unusedSimpArgs false

theorem parseM_num : ∀ (M : Nat) (l : List UInt8) (v u : Nat), M ≤ 4294967295 → v ≤ M → Lib.parseUintM M v l = .ok u → numM M l v = some u
  | M, [], v, u, _, _, h => by
    unfold Lib.parseUintM at h
    cases h
    rfl
  | M, b :: l, v, u, hM, hv, h => by
    unfold Lib.parseUintM at h
    split at h
    · rename_i hb
      split at h
      · cases h
      · split at h
        · cases h
        · unfold numM
          rw [if_neg (by unfold isD; simp only [Bool.and_eq_false_iff, decide_eq_false_iff_not]; omega), if_neg (by omega)]
          exact parseM_num M l _ u hM (by omega) h
    · cases h
theorem num_parseM : ∀ (M : Nat) (l : List UInt8) (v u : Nat), M ≤ 4294967295 → v ≤ M → numM M l v = some u → Lib.parseUintM M v l = .ok u
  | M, [], v, u, _, _, h => by
    have h : some v = some u := h
    cases h
    rfl
  | M, b :: l, v, u, hM, hv, h => by
    unfold numM at h
    split at h
    · cases h
    · rename_i hb
      have hb : isD b = true := by simpa using hb
      unfold isD at hb
      simp only [Bool.and_eq_true, decide_eq_true_eq] at hb
      split at h
      · cases h
      · unfold Lib.parseUintM
        rw [if_pos hb, if_neg (by omega), if_neg (by omega)]
        exact num_parseM M l _ u hM (by omega) h
/-- ParseUint(s, 10, 8) and what the document calls a number. -/
theorem parse8_num {l : List UInt8} {u : Nat} (h : numD 255 l = some u) : Lib.parseUintB 8 l = .ok u := by
  unfold numD at h
  split at h
  · cases h
  · rename_i hc
    unfold Lib.parseUintB
    rw [if_neg fun e => hc (.inl e)]
    exact num_parseM 255 l 0 u (by decide) (by decide) h
theorem num_parse8 {l : List UInt8} {u : Nat} (h : Lib.parseUintB 8 l = .ok u) : u ≤ 255 ∧ (numD 255 l = none ∨ numD 255 l = some u) := by
  unfold Lib.parseUintB at h
  split at h
  · cases h
  · have h1 := parseM_num 255 l 0 u (by decide) (by decide) h
    refine ⟨(numM_some _ _ _ _ h1 (by decide)).2.2, ?_⟩
    unfold numD
    split
    · exact .inl rfl
    · exact .inr h1
/-- How ParseUint(s, 10, 8) ends. -/
def PuEnd (w : World) (l : List UInt8) (e : Ending) (w' : World) : Prop :=
  ((∃ u : Nat, e = .returned (.tuple #[.int .u64 u, .nilIface]) ∧ u ≤ 255 ∧ (numD 255 l = none ∧ dcl u ≠ l ∨ numD 255 l = some u ∧ dcl u = l)) ∨ (∃ (u : Nat) (t : TypeId) (p : Option Addr), e = .returned (.tuple #[.int .u64 u, .iface t (.pointer p)]) ∧ u ≤ 255 ∧ numD 255 l = none)) ∧ Below w.heap.size w w'
/-- The two errors' variables hold what an interface of errors holds. -/
def ErrVars (w : World) : Prop := (∃ v, w.cell? ⟨0, 0, none⟩ = some v ∧ (v = .nilIface ∨ ∃ t p, v = .iface t p)) ∧ (∃ v, w.cell? ⟨1, 0, none⟩ = some v ∧ (v = .nilIface ∨ ∃ t p, v = .iface t p))
theorem ErrVars.later {w W : World} (h : ErrVars w) (hB : Below w.heap.size w W) : ErrVars W := by
  obtain ⟨⟨v, h1, h2⟩, ⟨u, h3, h4⟩⟩ := h
  exact ⟨⟨v, (hB.cell (p := ⟨0, 0, none⟩) (World.block_lt_of_cell? w _ h1)).trans h1, h2⟩, ⟨u, (hB.cell (p := ⟨1, 0, none⟩) (World.block_lt_of_cell? w _ h3)).trans h3, h4⟩⟩
theorem pu8_any (s : ByteArray) (w : World) (hs : s.size ≤ 1048576) (hv : ErrVars w) : Calls Tryd.prog 29 #[.string s, .int .i64 10, .int .i64 8] w (PuEnd w s.data.toList) := by
  obtain ⟨⟨v, h1, h2⟩, ⟨u, h3, h4⟩⟩ := hv
  cases h : Lib.parseUintB 8 s.data.toList with
  | ok u =>
    obtain ⟨h5, h6⟩ := num_parse8 h
    refine (Tryd.strconv_ParseUint_10_at8_ok s (by omega) u h w).mono ?_
    rintro e w' ⟨rfl, hw⟩
    refine ⟨.inl ⟨u, rfl, h5, ?_⟩, ?_⟩
    · rcases h6 with h6 | h6
      · refine .inl ⟨h6, fun e => ?_⟩
        rw [(numD_iff (by decide) _ u).2 ⟨h5, e.symm⟩] at h6
        cases h6
      · exact .inr ⟨h6, ((numD_iff (by decide) _ u).1 h6).2.symm⟩
    · rcases hw with rfl | rfl
      · exact Below.refl _ _
      · exact Lib.bytesWorld_below _ _ _
  | «syntax» =>
    have hn : numD 255 s.data.toList = none := by
      cases hd : numD 255 s.data.toList with
      | none => rfl
      | some x => rw [parse8_num hd] at h; cases h
    refine (Tryd.strconv_ParseUint_10_at8_syntax s (by omega) h v w h1 h2).mono ?_
    rintro e w' ⟨N, rfl, _, _, hB⟩
    exact ⟨.inr ⟨0, _, _, rfl, by decide, hn⟩, hB⟩
  | range =>
    have hn : numD 255 s.data.toList = none := by
      cases hd : numD 255 s.data.toList with
      | none => rfl
      | some x => rw [parse8_num hd] at h; cases h
    refine (Tryd.strconv_ParseUint_10_at8_range s (by omega) h u w h3 h4).mono ?_
    rintro e w' ⟨N, rfl, _, _, hB⟩
    exact ⟨.inr ⟨255, _, _, rfl, by decide, hn⟩, hB⟩
end Go.Proofs.YtoldhhaplndkcaaDoor
