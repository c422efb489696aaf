/- The compiler's signs: the longest one ahead. -/
import Derived.Test.YtoknkgeojhekoaaDoorSignR
import Derived.Deep.LoopGhost
namespace Go.Proofs.YtoknkgeojhekoaaDoor
open Go.RowKit Go.Shelf
set_option linter.unusedVariables false
set_option linter.unusedSimpArgs false

def signStr (k : Nat) : ByteArray := if k = 0 then ⟨#[60, 60, 32, 62, 62, 32, 60, 61, 32, 62, 61, 32, 61, 61, 32, 33, 61, 32, 38, 38, 32, 124, 124]⟩ else ⟨#[40, 32, 41, 32, 91, 32, 93, 32, 58, 32, 43, 32, 45, 32, 42, 32, 47, 32, 37, 32, 38, 32, 124, 32, 94, 32, 60, 32, 62, 32, 61, 32, 33]⟩
def signsAt (k : Nat) : List ByteArray := if k = 0 then twos.map fun x => ⟨x.toArray⟩ else ones.map fun x => ⟨#[x]⟩
def preB (l : List UInt8) (p : ByteArray) : Bool := Lib.hasPrefix l p.data.toList
theorem split0 : (Lib.splitB ⟨#[32]⟩ 0 (Lib.countB (signStr 0) ⟨#[32]⟩) (signStr 0)) = signsAt 0 ∧ Lib.countB (signStr 0) ⟨#[32]⟩ + 1 = 8 := ⟨by kernel_rfl, by kernel_rfl⟩
theorem split1 : (Lib.splitB ⟨#[32]⟩ 0 (Lib.countB (signStr 1) ⟨#[32]⟩) (signStr 1)) = signsAt 1 ∧ Lib.countB (signStr 1) ⟨#[32]⟩ + 1 = 17 := ⟨by kernel_rfl, by kernel_rfl⟩
theorem size0 : (signsAt 0).length = 8 := by kernel_rfl
theorem size1 : (signsAt 1).length = 17 := by kernel_rfl
theorem split_at {k : Nat} (h : k < 2) : Lib.splitB ⟨#[32]⟩ 0 (Lib.countB (signStr k) ⟨#[32]⟩) (signStr k) = signsAt k ∧ Lib.countB (signStr k) ⟨#[32]⟩ + 1 = (signsAt k).length ∧ (signStr k).size < 4294967281 ∧ (signsAt k).length ≤ 17 := by
  match k, h with
  | 0, _ => exact ⟨split0.1, by rw [size0]; exact split0.2, by decide, by rw [size0]; decide⟩
  | 1, _ => exact ⟨split1.1, by rw [size1]; exact split1.2, by decide, by rw [size1]; decide⟩
/-- Of texts of one length the first that stands ahead. -/
theorem find_len (l : List UInt8) (n : Nat) : ∀ L : List ByteArray, (∀ p ∈ L, p.data.toList.length = n) → L.find? (preB l) = if (L.map fun p => p.data.toList).contains (l.take n) then some ⟨(l.take n).toArray⟩ else none
  | [], _ => rfl
  | p :: L, h => by
    rw [List.find?_cons]
    cases hp : preB l p with
    | true =>
      have hq : p.data.toList <+: l := List.isPrefixOf_iff_prefix.1 hp
      have he : p.data.toList = l.take n := by
        rw [← h p (by simp)]
        exact (List.prefix_iff_eq_take.1 hq)
      rw [if_pos (by rw [List.map_cons, he]; simp)]
      show some p = _
      congr 1
      rcases p with ⟨a⟩
      congr 1
      simp at he
      rw [← he]
    | false =>
      have hne : ¬ p.data.toList = l.take n := fun he => by
        have : p.data.toList <+: l := by rw [he]; exact List.take_prefix n l
        have := List.isPrefixOf_iff_prefix.2 this
        have hp : p.data.toList.isPrefixOf l = false := hp
        rw [this] at hp
        cases hp
      show L.find? (preB l) = _
      rw [find_len l n L fun q hq => h q (by simp [hq]), List.map_cons, List.contains_cons]
      have : (l.take n == p.data.toList) = false := by
        rw [beq_eq_false_iff_ne]
        exact fun e => hne e.symm
      rw [this, Bool.false_or]
theorem find0 (l : List UInt8) : (signsAt 0).find? (preB l) = if twos.contains (l.take 2) then some ⟨(l.take 2).toArray⟩ else none := by
  rw [find_len l 2 (signsAt 0) (by decide)]
  rw [show (signsAt 0).map (fun p => p.data.toList) = twos from by kernel_rfl]
theorem find1 (b : UInt8) (l : List UInt8) : (signsAt 1).find? (preB (b :: l)) = if ones.contains b then some ⟨#[b]⟩ else none := by
  rw [find_len (b :: l) 1 (signsAt 1) (by decide)]
  have e : ((signsAt 1).map fun p => p.data.toList).contains [b] = ones.contains b := by
    rw [show (signsAt 1).map (fun p => p.data.toList) = ones.map fun x => [x] from by kernel_rfl]
    generalize ones = L
    induction L with
    | nil => rfl
    | cons x L ih =>
      rw [List.map_cons, List.contains_cons, List.contains_cons, ih]
      congr 1
      rw [Bool.eq_iff_iff]
      simp
  rw [show (b :: l).take 1 = [b] from rfl, e]
def signF (l : List UInt8) : ByteArray := match (signsAt 0).find? (preB l) with
  | some x => x
  | none => ((signsAt 1).find? (preB l)).getD ⟨#[]⟩
theorem signF_eq (s : ByteArray) (h : 0 < s.size) : signF s.data.toList = s.extract 0 (signN s.data.toList) := by
  have hd := drop_byte (s := s) (i := 0) h
  rw [List.drop_zero] at hd
  have key : signF s.data.toList = ⟨(s.data.toList.take (signN s.data.toList)).toArray⟩ := by
    unfold signF signN
    rw [find0]
    cases twos.contains (s.data.toList.take 2) with
    | true => rfl
    | false =>
      simp only [Bool.false_eq_true, if_false]
      rw [hd, find1]
      show (if ones.contains s[0] = true then some (⟨#[s[0]]⟩ : ByteArray) else none).getD ⟨#[]⟩ = ⟨(List.take (if ones.contains s[0] = true then 1 else 0) (s[0] :: s.data.toList.drop (0 + 1))).toArray⟩
      cases ones.contains s[0] with
      | true => rfl
      | false => rfl
  rw [key]
  apply ByteArray.ext
  apply Array.toList_inj.1
  rw [extract_list]
  simp
theorem find_step {L : List ByteArray} {p : ByteArray → Bool} {j : Nat} (h : j < L.length) : (L.drop j).find? p = if p (L.getD j ⟨#[]⟩) then some (L.getD j ⟨#[]⟩) else (L.drop (j + 1)).find? p := by
  rw [List.drop_eq_getElem_cons h, List.find?_cons, List.getD_eq_getElem?_getD, List.getElem?_eq_getElem h]
  simp only [Option.getD_some]
  cases p L[j] <;> rfl
theorem cell_strs (w : World) (L : List ByteArray) (j : Nat) (h : j < L.length) : (w.alloc (.cells (L.map Value.string).toArray 9)).cell? ⟨w.heap.size, j, none⟩ = some (.string (L.getD j ⟨#[]⟩)) := by
  rw [World.cell?_alloc_new]
  simp [List.getD_eq_getElem?_getD, List.getElem?_eq_getElem h]
set_option maxRecDepth 100000 in
set_option maxHeartbeats 3200000 in
theorem sign_any (s : ByteArray) (m : Int) (w : World) (hp : 0 < s.size) (hm : w.cell? ⟨0, 0, none⟩ = some (.int .i64 m)) :
    Calls Tryd.prog 35 #[.string s] w fun e w' => e = .returned (.string (s.extract 0 (signN s.data.toList))) ∧ Below w.heap.size w w' := by
  rw [← signF_eq s hp]
  obtain ⟨F, hF⟩ : ∃ F, signF s.data.toList = F := ⟨_, rfl⟩
  rw [hF]
  have HF := Lib.hid hF
  have hb0 : 0 < w.heap.size := World.block_lt_of_cell? w _ hm
  have hB1 : Below w.heap.size w (w.alloc (.cells #[.string (signStr 0), .string (signStr 1)] 9)) := (Below.refl _ w).alloc (Nat.le_refl _) _
  have HB1 := Lib.hid hB1
  have hc0 : ∀ k, k < 2 → (w.alloc (.cells #[.string (signStr 0), .string (signStr 1)] 9)).cell? ⟨w.heap.size, k, none⟩ = some (.string (signStr k)) := by
    intro k hk
    rw [World.cell?_alloc_new]
    match k, hk with
    | 0, _ => rfl
    | 1, _ => rfl
  have HC0 := Lib.hid hc0
  have Hm := Lib.hid hm
  clear hF hB1 hc0 hm
  go_enter Tryd.func35, Tryd.ntmps35
  go_wp2_with fail
  go_step3
  go_wp2_with fail
  go_step3
  go_wp2_with fail
  go_loopg [3, 10] 2 (fun g s3 s10 wx => ∃ k : Nat, k + g = 2 ∧ s10 = .int .i64 k ∧ s3 = .string ⟨#[]⟩ ∧ Below (w.heap.size + 1) (w.alloc (.cells #[.string (signStr 0), .string (signStr 1)] 9)) wx ∧ Aside (1 ≤ k → (signsAt 0).find? (preB s.data.toList) = none) ∧ Aside (2 ≤ k → (signsAt 1).find? (preB s.data.toList) = none))
  case atStart => exact ⟨0, rfl, rfl, rfl, Below.refl _ _, fun h => absurd h (by omega), fun h => absurd h (by omega)⟩
  case round =>
    obtain ⟨k, hkg, rfl, rfl, hbx, hn0, hn1⟩ := hrel
    have HBx := Lib.hid hbx
    clear hbx
    cases gk with
    | zero =>
      have hkz : ¬ ((k : Int) < 2) := by omega
      have hFe : F = ⟨#[]⟩ := by
        rw [← HF.out]
        unfold signF
        rw [hn0.out (by omega), hn1.out (by omega)]
        rfl
      have HFe := Lib.hid hFe
      clear hFe
      go_wp2_with fail
      go_ret
      rw [HFe.out]
      exact ⟨rfl, HB1.out.trans (HBx.out.mono (by omega))⟩
    | succ g =>
      have hk2 : k < 2 := by omega
      have hkz : (k : Int) < 2 := by omega
      have hkz0 : (0 : Int) ≤ (k : Int) := by omega
      obtain ⟨hsp, hct, hsz, hlen⟩ := split_at hk2
      have hcell : wr.cell? ⟨w.heap.size, k, none⟩ = some (.string (signStr k)) := (HBx.out.cell (p := ⟨w.heap.size, k, none⟩) (by simp)).trans (HC0.out k hk2)
      have hmr : wr.cell? ⟨0, 0, none⟩ = some (.int .i64 m) := (HBx.out.cell (p := ⟨0, 0, none⟩) (by simp)).trans ((HB1.out.cell (p := ⟨0, 0, none⟩) hb0).trans Hm.out)
      have cs := Tryd.strings_Split (signStr k) ⟨#[32]⟩ m wr hsz hmr (by decide)
      rw [hsp, hct] at cs
      obtain ⟨c, hc⟩ : ∃ c, signStr k = c := ⟨_, rfl⟩
      obtain ⟨L, hL⟩ : ∃ L, signsAt k = L := ⟨_, rfl⟩
      rw [hc] at cs hcell
      rw [hL] at cs hlen
      have HL := Lib.hid hL
      have CS := Lib.hid cs
      clear cs hsp hct hsz hmr hc hL
      go_wp2_with fail
      refine CS.out.mono ?_
      rintro e w2 ⟨rfl, rfl⟩
      have HcS : Hid (∀ j, j < L.length → (wr.alloc (.cells (L.map Value.string).toArray 9)).cell? ⟨wr.heap.size, j, none⟩ = some (.string (L.getD j ⟨#[]⟩))) := Lib.hid fun j hj => cell_strs wr L j hj
      have HB2 : Hid (Below (w.heap.size + 1) (w.alloc (.cells #[.string (signStr 0), .string (signStr 1)] 9)) (wr.alloc (.cells (L.map Value.string).toArray 9))) := Lib.hid (HBx.out.trans ((Below.refl _ wr).alloc (by have := HBx.out.size; simpa using this) _))
      obtain ⟨W2, hW2⟩ : ∃ W, wr.alloc (.cells (L.map Value.string).toArray 9) = W := ⟨_, rfl⟩
      obtain ⟨B2, hB2⟩ : ∃ B, wr.heap.size = B := ⟨_, rfl⟩
      rw [hW2] at HcS HB2 ⊢
      rw [hB2] at HcS ⊢
      clear hW2 hB2 hcell
      go_wp2_with fail
      go_loopg [3, 7, 17] L.length (fun g2 s3 s7 s17 wy => ∃ j : Nat, j + g2 = L.length ∧ s17 = .int .i64 j ∧ s3 = .string ⟨#[]⟩ ∧ Aside ((L.drop j).find? (preB s.data.toList) = L.find? (preB s.data.toList)) ∧ W2 = wy)
      case atStart => exact ⟨0, by omega, rfl, rfl, rfl, rfl⟩
      case round =>
        obtain ⟨j, hjg, rfl, rfl, hj, rfl⟩ := hrel
        cases gk with
        | zero =>
          have hjz : ¬ ((j : Int) < (L.length : Int)) := by omega
          have hnone : L.find? (preB s.data.toList) = none := by rw [← hj.out, List.drop_of_length_le (by omega)]; rfl
          have HN := Lib.hid hnone
          clear hnone
          go_wp2_with fail
          go_roundg g
          case measure => omega
          case rel => exact ⟨k + 1, by omega, by go_num, rfl, HB2.out, fun h => by
              have h0 := HL.out
              by_cases e : k = 0
              · subst e; rw [h0]; exact HN.out
              · exact hn0.out (by omega), fun h => by
              have h0 := HL.out
              have e : k = 1 := by omega
              subst e; rw [h0]; exact HN.out⟩
        | succ g2 =>
          have hjz : (j : Int) < (L.length : Int) := by omega
          have hj0 : (0 : Int) ≤ (j : Int) := by omega
          have hcell2 := HcS.out j (by omega)
          obtain ⟨p, hpp⟩ : ∃ p, L.getD j ⟨#[]⟩ = p := ⟨_, rfl⟩
          have hstep := find_step (L := L) (p := preB s.data.toList) (j := j) (by omega)
          rw [hpp] at hcell2 hstep
          obtain ⟨b, hb⟩ : ∃ b, preB s.data.toList p = b := ⟨_, rfl⟩
          rw [hb] at hstep
          have c2 := prefix_any s p W2
          rw [show Lib.hasPrefix s.data.toList p.data.toList = b from hb] at c2
          have C2 := Lib.hid c2
          have HSt := Lib.hid hstep
          clear hpp hb c2 hstep
          cases b with
          | false =>
            go_wp2_with fail
            refine C2.out.mono ?_
            rintro e w3 ⟨rfl, rfl⟩
            go_wp2_with fail
            go_roundg g2
            case measure => omega
            case rel => exact ⟨j + 1, by omega, by go_num, rfl, by
                have h1 := HSt.out
                show _ = _
                rw [← hj.out, h1]
                rfl, by trivial⟩
          | true =>
            have hFp : F = p := by
              have h1 := HSt.out
              rw [hj.out] at h1
              have h1 : L.find? (preB s.data.toList) = some p := h1
              rw [← HF.out]
              unfold signF
              rcases Nat.lt_or_ge k 1 with h | h
              · have e : k = 0 := by omega
                subst e
                rw [HL.out, h1]
              · have e : k = 1 := by omega
                subst e
                rw [hn0.out (by omega), HL.out, h1]
                rfl
            have HFp := Lib.hid hFp
            clear hFp
            go_wp2_with fail
            refine C2.out.mono ?_
            rintro e w3 ⟨rfl, rfl⟩
            go_wp2_with fail
            try rw [Exit.noGoto_ret]
            go_ret
            rw [HFp.out]
            exact ⟨rfl, HB1.out.trans (HB2.out.mono (by omega))⟩
end Go.Proofs.YtoknkgeojhekoaaDoor
