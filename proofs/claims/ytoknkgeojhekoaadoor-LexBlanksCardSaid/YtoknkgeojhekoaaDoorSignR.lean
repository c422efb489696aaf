/- The document's signs. -/
import Derived.Test.YtoknkgeojhekoaaDoorNumR
namespace Go.Proofs.YtoknkgeojhekoaaDoor
open Go.RowKit Go.Shelf
set_option linter.unusedVariables false
set_option linter.unusedSimpArgs false

def twos : List (List UInt8) := [[60, 60], [62, 62], [60, 61], [62, 61], [61, 61], [33, 61], [38, 38], [124, 124]]
def ones : List UInt8 := [40, 41, 91, 93, 58, 43, 45, 42, 47, 37, 38, 124, 94, 60, 62, 61, 33]
def onesI : List Int := [40, 41, 91, 93, 58, 43, 45, 42, 47, 37, 38, 124, 94, 60, 62, 61, 33]
/-- How long the longest sign ahead is. -/
def signN (l : List UInt8) : Nat := if twos.contains (l.take 2) then 2 else match l with
  | b :: _ => if ones.contains b then 1 else 0
  | [] => 0
theorem contains_int : ∀ (l : List UInt8) (b : UInt8), l.contains b = (l.map fun x => (x.toNat : Int)).contains (b.toNat : Int)
  | [], b => rfl
  | x :: l, b => by
    rw [List.map_cons, List.contains_cons, List.contains_cons, contains_int l b]
    congr 1
    rw [byte_eq]
    exact (decide_eq_decide.2 Iff.rfl).trans rfl
theorem ones_int (b : UInt8) : ones.contains b = onesI.contains (b.toNat : Int) := contains_int ones b
theorem two_len {q : List UInt8} (h : twos.contains q = true) : q.length = 2 := by
  have : ∀ x ∈ twos, x.length = 2 := by decide
  exact this q (by simpa using h)
theorem signN_le (l : List UInt8) : signN l ≤ 2 ∧ signN l ≤ l.length := by
  unfold signN
  split
  · rename_i h
    have := two_len h
    rw [List.length_take] at this
    omega
  · split
    · split <;> simp
    · simp
theorem eight_ways (q : List UInt8) : ((q == [60, 60]) = true) ∨ ((q == [60, 60]) = false ∧ (q == [62, 62]) = true) ∨ ((q == [60, 60]) = false ∧ (q == [62, 62]) = false ∧ (q == [60, 61]) = true) ∨ ((q == [60, 60]) = false ∧ (q == [62, 62]) = false ∧ (q == [60, 61]) = false ∧ (q == [62, 61]) = true) ∨ ((q == [60, 60]) = false ∧ (q == [62, 62]) = false ∧ (q == [60, 61]) = false ∧ (q == [62, 61]) = false ∧ (q == [61, 61]) = true) ∨ ((q == [60, 60]) = false ∧ (q == [62, 62]) = false ∧ (q == [60, 61]) = false ∧ (q == [62, 61]) = false ∧ (q == [61, 61]) = false ∧ (q == [33, 61]) = true) ∨ ((q == [60, 60]) = false ∧ (q == [62, 62]) = false ∧ (q == [60, 61]) = false ∧ (q == [62, 61]) = false ∧ (q == [61, 61]) = false ∧ (q == [33, 61]) = false ∧ (q == [38, 38]) = true) ∨ ((q == [60, 60]) = false ∧ (q == [62, 62]) = false ∧ (q == [60, 61]) = false ∧ (q == [62, 61]) = false ∧ (q == [61, 61]) = false ∧ (q == [33, 61]) = false ∧ (q == [38, 38]) = false ∧ (q == [124, 124]) = true) ∨ ((q == [60, 60]) = false ∧ (q == [62, 62]) = false ∧ (q == [60, 61]) = false ∧ (q == [62, 61]) = false ∧ (q == [61, 61]) = false ∧ (q == [33, 61]) = false ∧ (q == [38, 38]) = false ∧ (q == [124, 124]) = false) := by
  cases h0 : (q == [60, 60])
  case' true => exact Or.inl (rfl)
  cases h1 : (q == [62, 62])
  case' true => exact Or.inr (Or.inl (⟨rfl, rfl⟩))
  cases h2 : (q == [60, 61])
  case' true => exact Or.inr (Or.inr (Or.inl (⟨rfl, rfl, rfl⟩)))
  cases h3 : (q == [62, 61])
  case' true => exact Or.inr (Or.inr (Or.inr (Or.inl (⟨rfl, rfl, rfl, rfl⟩))))
  cases h4 : (q == [61, 61])
  case' true => exact Or.inr (Or.inr (Or.inr (Or.inr (Or.inl (⟨rfl, rfl, rfl, rfl, rfl⟩)))))
  cases h5 : (q == [33, 61])
  case' true => exact Or.inr (Or.inr (Or.inr (Or.inr (Or.inr (Or.inl (⟨rfl, rfl, rfl, rfl, rfl, rfl⟩))))))
  cases h6 : (q == [38, 38])
  case' true => exact Or.inr (Or.inr (Or.inr (Or.inr (Or.inr (Or.inr (Or.inl (⟨rfl, rfl, rfl, rfl, rfl, rfl, rfl⟩)))))))
  cases h7 : (q == [124, 124])
  case' true => exact Or.inr (Or.inr (Or.inr (Or.inr (Or.inr (Or.inr (Or.inr (Or.inl (⟨rfl, rfl, rfl, rfl, rfl, rfl, rfl, rfl⟩))))))))
  exact Or.inr (Or.inr (Or.inr (Or.inr (Or.inr (Or.inr (Or.inr (Or.inr ⟨rfl, rfl, rfl, rfl, rfl, rfl, rfl, rfl⟩)))))))
theorem ones_ways (c : Int) : ((c == 40) = true) ∨ ((c == 40) = false ∧ (c == 41) = true) ∨ ((c == 40) = false ∧ (c == 41) = false ∧ (c == 91) = true) ∨ ((c == 40) = false ∧ (c == 41) = false ∧ (c == 91) = false ∧ (c == 93) = true) ∨ ((c == 40) = false ∧ (c == 41) = false ∧ (c == 91) = false ∧ (c == 93) = false ∧ (c == 58) = true) ∨ ((c == 40) = false ∧ (c == 41) = false ∧ (c == 91) = false ∧ (c == 93) = false ∧ (c == 58) = false ∧ (c == 43) = true) ∨ ((c == 40) = false ∧ (c == 41) = false ∧ (c == 91) = false ∧ (c == 93) = false ∧ (c == 58) = false ∧ (c == 43) = false ∧ (c == 45) = true) ∨ ((c == 40) = false ∧ (c == 41) = false ∧ (c == 91) = false ∧ (c == 93) = false ∧ (c == 58) = false ∧ (c == 43) = false ∧ (c == 45) = false ∧ (c == 42) = true) ∨ ((c == 40) = false ∧ (c == 41) = false ∧ (c == 91) = false ∧ (c == 93) = false ∧ (c == 58) = false ∧ (c == 43) = false ∧ (c == 45) = false ∧ (c == 42) = false ∧ (c == 47) = true) ∨ ((c == 40) = false ∧ (c == 41) = false ∧ (c == 91) = false ∧ (c == 93) = false ∧ (c == 58) = false ∧ (c == 43) = false ∧ (c == 45) = false ∧ (c == 42) = false ∧ (c == 47) = false ∧ (c == 37) = true) ∨ ((c == 40) = false ∧ (c == 41) = false ∧ (c == 91) = false ∧ (c == 93) = false ∧ (c == 58) = false ∧ (c == 43) = false ∧ (c == 45) = false ∧ (c == 42) = false ∧ (c == 47) = false ∧ (c == 37) = false ∧ (c == 38) = true) ∨ ((c == 40) = false ∧ (c == 41) = false ∧ (c == 91) = false ∧ (c == 93) = false ∧ (c == 58) = false ∧ (c == 43) = false ∧ (c == 45) = false ∧ (c == 42) = false ∧ (c == 47) = false ∧ (c == 37) = false ∧ (c == 38) = false ∧ (c == 124) = true) ∨ ((c == 40) = false ∧ (c == 41) = false ∧ (c == 91) = false ∧ (c == 93) = false ∧ (c == 58) = false ∧ (c == 43) = false ∧ (c == 45) = false ∧ (c == 42) = false ∧ (c == 47) = false ∧ (c == 37) = false ∧ (c == 38) = false ∧ (c == 124) = false ∧ (c == 94) = true) ∨ ((c == 40) = false ∧ (c == 41) = false ∧ (c == 91) = false ∧ (c == 93) = false ∧ (c == 58) = false ∧ (c == 43) = false ∧ (c == 45) = false ∧ (c == 42) = false ∧ (c == 47) = false ∧ (c == 37) = false ∧ (c == 38) = false ∧ (c == 124) = false ∧ (c == 94) = false ∧ (c == 60) = true) ∨ ((c == 40) = false ∧ (c == 41) = false ∧ (c == 91) = false ∧ (c == 93) = false ∧ (c == 58) = false ∧ (c == 43) = false ∧ (c == 45) = false ∧ (c == 42) = false ∧ (c == 47) = false ∧ (c == 37) = false ∧ (c == 38) = false ∧ (c == 124) = false ∧ (c == 94) = false ∧ (c == 60) = false ∧ (c == 62) = true) ∨ ((c == 40) = false ∧ (c == 41) = false ∧ (c == 91) = false ∧ (c == 93) = false ∧ (c == 58) = false ∧ (c == 43) = false ∧ (c == 45) = false ∧ (c == 42) = false ∧ (c == 47) = false ∧ (c == 37) = false ∧ (c == 38) = false ∧ (c == 124) = false ∧ (c == 94) = false ∧ (c == 60) = false ∧ (c == 62) = false ∧ (c == 61) = true) ∨ ((c == 40) = false ∧ (c == 41) = false ∧ (c == 91) = false ∧ (c == 93) = false ∧ (c == 58) = false ∧ (c == 43) = false ∧ (c == 45) = false ∧ (c == 42) = false ∧ (c == 47) = false ∧ (c == 37) = false ∧ (c == 38) = false ∧ (c == 124) = false ∧ (c == 94) = false ∧ (c == 60) = false ∧ (c == 62) = false ∧ (c == 61) = false ∧ (c == 33) = true) ∨ ((c == 40) = false ∧ (c == 41) = false ∧ (c == 91) = false ∧ (c == 93) = false ∧ (c == 58) = false ∧ (c == 43) = false ∧ (c == 45) = false ∧ (c == 42) = false ∧ (c == 47) = false ∧ (c == 37) = false ∧ (c == 38) = false ∧ (c == 124) = false ∧ (c == 94) = false ∧ (c == 60) = false ∧ (c == 62) = false ∧ (c == 61) = false ∧ (c == 33) = false) := by
  cases h0 : (c == 40)
  case' true => exact Or.inl (rfl)
  cases h1 : (c == 41)
  case' true => exact Or.inr (Or.inl (⟨rfl, rfl⟩))
  cases h2 : (c == 91)
  case' true => exact Or.inr (Or.inr (Or.inl (⟨rfl, rfl, rfl⟩)))
  cases h3 : (c == 93)
  case' true => exact Or.inr (Or.inr (Or.inr (Or.inl (⟨rfl, rfl, rfl, rfl⟩))))
  cases h4 : (c == 58)
  case' true => exact Or.inr (Or.inr (Or.inr (Or.inr (Or.inl (⟨rfl, rfl, rfl, rfl, rfl⟩)))))
  cases h5 : (c == 43)
  case' true => exact Or.inr (Or.inr (Or.inr (Or.inr (Or.inr (Or.inl (⟨rfl, rfl, rfl, rfl, rfl, rfl⟩))))))
  cases h6 : (c == 45)
  case' true => exact Or.inr (Or.inr (Or.inr (Or.inr (Or.inr (Or.inr (Or.inl (⟨rfl, rfl, rfl, rfl, rfl, rfl, rfl⟩)))))))
  cases h7 : (c == 42)
  case' true => exact Or.inr (Or.inr (Or.inr (Or.inr (Or.inr (Or.inr (Or.inr (Or.inl (⟨rfl, rfl, rfl, rfl, rfl, rfl, rfl, rfl⟩))))))))
  cases h8 : (c == 47)
  case' true => exact Or.inr (Or.inr (Or.inr (Or.inr (Or.inr (Or.inr (Or.inr (Or.inr (Or.inl (⟨rfl, rfl, rfl, rfl, rfl, rfl, rfl, rfl, rfl⟩)))))))))
  cases h9 : (c == 37)
  case' true => exact Or.inr (Or.inr (Or.inr (Or.inr (Or.inr (Or.inr (Or.inr (Or.inr (Or.inr (Or.inl (⟨rfl, rfl, rfl, rfl, rfl, rfl, rfl, rfl, rfl, rfl⟩))))))))))
  cases h10 : (c == 38)
  case' true => exact Or.inr (Or.inr (Or.inr (Or.inr (Or.inr (Or.inr (Or.inr (Or.inr (Or.inr (Or.inr (Or.inl (⟨rfl, rfl, rfl, rfl, rfl, rfl, rfl, rfl, rfl, rfl, rfl⟩)))))))))))
  cases h11 : (c == 124)
  case' true => exact Or.inr (Or.inr (Or.inr (Or.inr (Or.inr (Or.inr (Or.inr (Or.inr (Or.inr (Or.inr (Or.inr (Or.inl (⟨rfl, rfl, rfl, rfl, rfl, rfl, rfl, rfl, rfl, rfl, rfl, rfl⟩))))))))))))
  cases h12 : (c == 94)
  case' true => exact Or.inr (Or.inr (Or.inr (Or.inr (Or.inr (Or.inr (Or.inr (Or.inr (Or.inr (Or.inr (Or.inr (Or.inr (Or.inl (⟨rfl, rfl, rfl, rfl, rfl, rfl, rfl, rfl, rfl, rfl, rfl, rfl, rfl⟩)))))))))))))
  cases h13 : (c == 60)
  case' true => exact Or.inr (Or.inr (Or.inr (Or.inr (Or.inr (Or.inr (Or.inr (Or.inr (Or.inr (Or.inr (Or.inr (Or.inr (Or.inr (Or.inl (⟨rfl, rfl, rfl, rfl, rfl, rfl, rfl, rfl, rfl, rfl, rfl, rfl, rfl, rfl⟩))))))))))))))
  cases h14 : (c == 62)
  case' true => exact Or.inr (Or.inr (Or.inr (Or.inr (Or.inr (Or.inr (Or.inr (Or.inr (Or.inr (Or.inr (Or.inr (Or.inr (Or.inr (Or.inr (Or.inl (⟨rfl, rfl, rfl, rfl, rfl, rfl, rfl, rfl, rfl, rfl, rfl, rfl, rfl, rfl, rfl⟩)))))))))))))))
  cases h15 : (c == 61)
  case' true => exact Or.inr (Or.inr (Or.inr (Or.inr (Or.inr (Or.inr (Or.inr (Or.inr (Or.inr (Or.inr (Or.inr (Or.inr (Or.inr (Or.inr (Or.inr (Or.inl (⟨rfl, rfl, rfl, rfl, rfl, rfl, rfl, rfl, rfl, rfl, rfl, rfl, rfl, rfl, rfl, rfl⟩))))))))))))))))
  cases h16 : (c == 33)
  case' true => exact Or.inr (Or.inr (Or.inr (Or.inr (Or.inr (Or.inr (Or.inr (Or.inr (Or.inr (Or.inr (Or.inr (Or.inr (Or.inr (Or.inr (Or.inr (Or.inr (Or.inl (⟨rfl, rfl, rfl, rfl, rfl, rfl, rfl, rfl, rfl, rfl, rfl, rfl, rfl, rfl, rfl, rfl, rfl⟩)))))))))))))))))
  exact Or.inr (Or.inr (Or.inr (Or.inr (Or.inr (Or.inr (Or.inr (Or.inr (Or.inr (Or.inr (Or.inr (Or.inr (Or.inr (Or.inr (Or.inr (Or.inr (Or.inr ⟨rfl, rfl, rfl, rfl, rfl, rfl, rfl, rfl, rfl, rfl, rfl, rfl, rfl, rfl, rfl, rfl, rfl⟩))))))))))))))))
theorem sign_two {l q k : List UInt8} {n : Nat} (hq : q = l.take 2) (hn : signN l = n) (hk : twos.contains k = true) (h : (q == k) = true) : n = 2 := by
  have h := eq_of_beq h
  subst h
  rw [hq] at hk
  unfold signN at hn
  rw [if_pos hk] at hn
  exact hn.symm
theorem sign_rest {l r : List UInt8} {b : UInt8} {n : Nat} (hd : l = b :: r) (hn : signN l = n) (h : twos.contains (l.take 2) = false) : n = if onesI.contains (b.toNat : Int) then 1 else 0 := by
  unfold signN at hn
  rw [if_neg (by rw [h]; simp)] at hn
  subst hd
  rw [← ones_int, ← hn]
theorem sign_one {l r : List UInt8} {b : UInt8} {n : Nat} {k : Int} (hd : l = b :: r) (hn : signN l = n) (h : twos.contains (l.take 2) = false) (hk : onesI.contains k = true) (e : ((b.toNat : Int) == k) = true) : n = 1 := by
  have e := eq_of_beq e
  rw [sign_rest hd hn h, e, if_pos hk]
theorem twos_none {q : List UInt8} (h : (q == [60, 60]) = false ∧ (q == [62, 62]) = false ∧ (q == [60, 61]) = false ∧ (q == [62, 61]) = false ∧ (q == [61, 61]) = false ∧ (q == [33, 61]) = false ∧ (q == [38, 38]) = false ∧ (q == [124, 124]) = false) : twos.contains q = false := by
  obtain ⟨h0, h1, h2, h3, h4, h5, h6, h7⟩ := h
  simp only [twos, List.contains_cons, h0, h1, h2, h3, h4, h5, h6, h7]
  rfl
theorem ones_none {c : Int} (h : (c == 40) = false ∧ (c == 41) = false ∧ (c == 91) = false ∧ (c == 93) = false ∧ (c == 58) = false ∧ (c == 43) = false ∧ (c == 45) = false ∧ (c == 42) = false ∧ (c == 47) = false ∧ (c == 37) = false ∧ (c == 38) = false ∧ (c == 124) = false ∧ (c == 94) = false ∧ (c == 60) = false ∧ (c == 62) = false ∧ (c == 61) = false ∧ (c == 33) = false) : onesI.contains c = false := by
  obtain ⟨h0, h1, h2, h3, h4, h5, h6, h7, h8, h9, h10, h11, h12, h13, h14, h15, h16⟩ := h
  simp only [onesI, List.contains_cons, h0, h1, h2, h3, h4, h5, h6, h7, h8, h9, h10, h11, h12, h13, h14, h15, h16]
  rfl
theorem twos_short {l : List UInt8} (h : l.length < 2) : twos.contains (l.take 2) = false := by
  cases e : twos.contains (l.take 2) with
  | false => rfl
  | true =>
    have := two_len e
    rw [List.length_take] at this
    omega
theorem extract_nil (s : ByteArray) (a : Nat) : s.extract a a = ⟨#[]⟩ := by
  rw [empty_iff]
  simp
set_option maxRecDepth 100000 in
set_option maxHeartbeats 6400000 in
theorem rsign_any (s : ByteArray) (at0 : Nat) (w : World) (hs : s.size ≤ 4611686018427387904) (hat : at0 < s.size) :
    Calls Tryd.prog 18 #[.string s, .int .i64 at0] w fun e w' => e = .returned (.string (s.extract at0 (at0 + signN (s.data.toList.drop at0)))) ∧ w = w' := by
  have hd := drop_byte hat
  have i0 : (0 : Int) ≤ (at0 : Int) := by omega
  have i1 : (at0 : Int) < (s.size : Int) := by omega
  have i5 : (at0 : Int) + 1 ≤ (s.size : Int) := by omega
  have i6 : (at0 : Int) ≤ (at0 : Int) + 1 := by omega
  obtain ⟨n, hn⟩ : ∃ n, signN (s.data.toList.drop at0) = n := ⟨_, rfl⟩
  rw [hn]
  have Hd := Lib.hid hd
  have Hn := Lib.hid hn
  clear hd hn
  by_cases h2 : at0 + 1 < s.size
  · have i2 : (at0 : Int) + 1 < (s.size : Int) := by omega
    have i3 : (at0 : Int) + 2 ≤ (s.size : Int) := by omega
    have i4 : (at0 : Int) ≤ (at0 : Int) + 2 := by omega
    have hq : (s.extract at0 (at0 + 2)).toList = (s.data.toList.drop at0).take 2 := by
      rw [ByteArray.toList_eq, extract_list]
      congr 1
      omega
    have Hq := Lib.hid hq
    clear hq
    go_enter Tryd.func18, Tryd.ntmps18
    go_upto_region 5 with fail
    rcases eight_ways (s.extract at0 (at0 + 2)).toList with h0 | ⟨h0, h1⟩ | ⟨h0, h1, h2⟩ | ⟨h0, h1, h2, h3⟩ | ⟨h0, h1, h2, h3, h4⟩ | ⟨h0, h1, h2, h3, h4, h5⟩ | ⟨h0, h1, h2, h3, h4, h5, h6⟩ | ⟨h0, h1, h2, h3, h4, h5, h6, h7⟩ | ⟨h0, h1, h2, h3, h4, h5, h6, h7⟩
    · obtain rfl := sign_two Hq.out Hn.out (by decide) h0
      go_wp2_with fail
      go_ret
      exact ⟨rfl, rfl⟩
    · obtain rfl := sign_two Hq.out Hn.out (by decide) h1
      go_wp2_with fail
      go_ret
      exact ⟨rfl, rfl⟩
    · obtain rfl := sign_two Hq.out Hn.out (by decide) h2
      go_wp2_with fail
      go_ret
      exact ⟨rfl, rfl⟩
    · obtain rfl := sign_two Hq.out Hn.out (by decide) h3
      go_wp2_with fail
      go_ret
      exact ⟨rfl, rfl⟩
    · obtain rfl := sign_two Hq.out Hn.out (by decide) h4
      go_wp2_with fail
      go_ret
      exact ⟨rfl, rfl⟩
    · obtain rfl := sign_two Hq.out Hn.out (by decide) h5
      go_wp2_with fail
      go_ret
      exact ⟨rfl, rfl⟩
    · obtain rfl := sign_two Hq.out Hn.out (by decide) h6
      go_wp2_with fail
      go_ret
      exact ⟨rfl, rfl⟩
    · obtain rfl := sign_two Hq.out Hn.out (by decide) h7
      go_wp2_with fail
      go_ret
      exact ⟨rfl, rfl⟩
    · have hf := twos_none ⟨h0, h1, h2, h3, h4, h5, h6, h7⟩
      rw [Hq.out] at hf
      have Hf := Lib.hid hf
      clear hf
      go_upto_region 15 with fail
      clear h0 h1 h2 h3 h4 h5 h6 h7
      rcases ones_ways (s[at0].toNat : Int) with h0 | ⟨h0, h1⟩ | ⟨h0, h1, h2⟩ | ⟨h0, h1, h2, h3⟩ | ⟨h0, h1, h2, h3, h4⟩ | ⟨h0, h1, h2, h3, h4, h5⟩ | ⟨h0, h1, h2, h3, h4, h5, h6⟩ | ⟨h0, h1, h2, h3, h4, h5, h6, h7⟩ | ⟨h0, h1, h2, h3, h4, h5, h6, h7, h8⟩ | ⟨h0, h1, h2, h3, h4, h5, h6, h7, h8, h9⟩ | ⟨h0, h1, h2, h3, h4, h5, h6, h7, h8, h9, h10⟩ | ⟨h0, h1, h2, h3, h4, h5, h6, h7, h8, h9, h10, h11⟩ | ⟨h0, h1, h2, h3, h4, h5, h6, h7, h8, h9, h10, h11, h12⟩ | ⟨h0, h1, h2, h3, h4, h5, h6, h7, h8, h9, h10, h11, h12, h13⟩ | ⟨h0, h1, h2, h3, h4, h5, h6, h7, h8, h9, h10, h11, h12, h13, h14⟩ | ⟨h0, h1, h2, h3, h4, h5, h6, h7, h8, h9, h10, h11, h12, h13, h14, h15⟩ | ⟨h0, h1, h2, h3, h4, h5, h6, h7, h8, h9, h10, h11, h12, h13, h14, h15, h16⟩ | ⟨h0, h1, h2, h3, h4, h5, h6, h7, h8, h9, h10, h11, h12, h13, h14, h15, h16⟩
      · obtain rfl := sign_one Hd.out Hn.out Hf.out (by decide) h0
        go_wp2_with fail
        go_ret
        exact ⟨rfl, rfl⟩
      · obtain rfl := sign_one Hd.out Hn.out Hf.out (by decide) h1
        go_wp2_with fail
        go_ret
        exact ⟨rfl, rfl⟩
      · obtain rfl := sign_one Hd.out Hn.out Hf.out (by decide) h2
        go_wp2_with fail
        go_ret
        exact ⟨rfl, rfl⟩
      · obtain rfl := sign_one Hd.out Hn.out Hf.out (by decide) h3
        go_wp2_with fail
        go_ret
        exact ⟨rfl, rfl⟩
      · obtain rfl := sign_one Hd.out Hn.out Hf.out (by decide) h4
        go_wp2_with fail
        go_ret
        exact ⟨rfl, rfl⟩
      · obtain rfl := sign_one Hd.out Hn.out Hf.out (by decide) h5
        go_wp2_with fail
        go_ret
        exact ⟨rfl, rfl⟩
      · obtain rfl := sign_one Hd.out Hn.out Hf.out (by decide) h6
        go_wp2_with fail
        go_ret
        exact ⟨rfl, rfl⟩
      · obtain rfl := sign_one Hd.out Hn.out Hf.out (by decide) h7
        go_wp2_with fail
        go_ret
        exact ⟨rfl, rfl⟩
      · obtain rfl := sign_one Hd.out Hn.out Hf.out (by decide) h8
        go_wp2_with fail
        go_ret
        exact ⟨rfl, rfl⟩
      · obtain rfl := sign_one Hd.out Hn.out Hf.out (by decide) h9
        go_wp2_with fail
        go_ret
        exact ⟨rfl, rfl⟩
      · obtain rfl := sign_one Hd.out Hn.out Hf.out (by decide) h10
        go_wp2_with fail
        go_ret
        exact ⟨rfl, rfl⟩
      · obtain rfl := sign_one Hd.out Hn.out Hf.out (by decide) h11
        go_wp2_with fail
        go_ret
        exact ⟨rfl, rfl⟩
      · obtain rfl := sign_one Hd.out Hn.out Hf.out (by decide) h12
        go_wp2_with fail
        go_ret
        exact ⟨rfl, rfl⟩
      · obtain rfl := sign_one Hd.out Hn.out Hf.out (by decide) h13
        go_wp2_with fail
        go_ret
        exact ⟨rfl, rfl⟩
      · obtain rfl := sign_one Hd.out Hn.out Hf.out (by decide) h14
        go_wp2_with fail
        go_ret
        exact ⟨rfl, rfl⟩
      · obtain rfl := sign_one Hd.out Hn.out Hf.out (by decide) h15
        go_wp2_with fail
        go_ret
        exact ⟨rfl, rfl⟩
      · obtain rfl := sign_one Hd.out Hn.out Hf.out (by decide) h16
        go_wp2_with fail
        go_ret
        exact ⟨rfl, rfl⟩
      · have e := sign_rest Hd.out Hn.out Hf.out
        rw [ones_none ⟨h0, h1, h2, h3, h4, h5, h6, h7, h8, h9, h10, h11, h12, h13, h14, h15, h16⟩] at e
        simp only [Bool.false_eq_true, if_false] at e
        subst e
        go_wp2_with fail
        go_ret
        first | exact ⟨rfl, rfl⟩ | exact ⟨(by rw [show s.extract at0 (at0 + 0) = ⟨#[]⟩ from extract_nil s at0] : Ending.returned (Value.string ⟨#[]⟩) = Ending.returned (Value.string (s.extract at0 (at0 + 0)))), rfl⟩
  · have i2 : ¬ (at0 : Int) + 1 < (s.size : Int) := by omega
    have hf := twos_short (l := s.data.toList.drop at0) (by rw [List.length_drop, size_list]; omega)
    have Hf := Lib.hid hf
    clear hf
    go_enter Tryd.func18, Tryd.ntmps18
    go_upto_region 15 with fail
    rcases ones_ways (s[at0].toNat : Int) with h0 | ⟨h0, h1⟩ | ⟨h0, h1, h2⟩ | ⟨h0, h1, h2, h3⟩ | ⟨h0, h1, h2, h3, h4⟩ | ⟨h0, h1, h2, h3, h4, h5⟩ | ⟨h0, h1, h2, h3, h4, h5, h6⟩ | ⟨h0, h1, h2, h3, h4, h5, h6, h7⟩ | ⟨h0, h1, h2, h3, h4, h5, h6, h7, h8⟩ | ⟨h0, h1, h2, h3, h4, h5, h6, h7, h8, h9⟩ | ⟨h0, h1, h2, h3, h4, h5, h6, h7, h8, h9, h10⟩ | ⟨h0, h1, h2, h3, h4, h5, h6, h7, h8, h9, h10, h11⟩ | ⟨h0, h1, h2, h3, h4, h5, h6, h7, h8, h9, h10, h11, h12⟩ | ⟨h0, h1, h2, h3, h4, h5, h6, h7, h8, h9, h10, h11, h12, h13⟩ | ⟨h0, h1, h2, h3, h4, h5, h6, h7, h8, h9, h10, h11, h12, h13, h14⟩ | ⟨h0, h1, h2, h3, h4, h5, h6, h7, h8, h9, h10, h11, h12, h13, h14, h15⟩ | ⟨h0, h1, h2, h3, h4, h5, h6, h7, h8, h9, h10, h11, h12, h13, h14, h15, h16⟩ | ⟨h0, h1, h2, h3, h4, h5, h6, h7, h8, h9, h10, h11, h12, h13, h14, h15, h16⟩
    · obtain rfl := sign_one Hd.out Hn.out Hf.out (by decide) h0
      go_wp2_with fail
      go_ret
      exact ⟨rfl, rfl⟩
    · obtain rfl := sign_one Hd.out Hn.out Hf.out (by decide) h1
      go_wp2_with fail
      go_ret
      exact ⟨rfl, rfl⟩
    · obtain rfl := sign_one Hd.out Hn.out Hf.out (by decide) h2
      go_wp2_with fail
      go_ret
      exact ⟨rfl, rfl⟩
    · obtain rfl := sign_one Hd.out Hn.out Hf.out (by decide) h3
      go_wp2_with fail
      go_ret
      exact ⟨rfl, rfl⟩
    · obtain rfl := sign_one Hd.out Hn.out Hf.out (by decide) h4
      go_wp2_with fail
      go_ret
      exact ⟨rfl, rfl⟩
    · obtain rfl := sign_one Hd.out Hn.out Hf.out (by decide) h5
      go_wp2_with fail
      go_ret
      exact ⟨rfl, rfl⟩
    · obtain rfl := sign_one Hd.out Hn.out Hf.out (by decide) h6
      go_wp2_with fail
      go_ret
      exact ⟨rfl, rfl⟩
    · obtain rfl := sign_one Hd.out Hn.out Hf.out (by decide) h7
      go_wp2_with fail
      go_ret
      exact ⟨rfl, rfl⟩
    · obtain rfl := sign_one Hd.out Hn.out Hf.out (by decide) h8
      go_wp2_with fail
      go_ret
      exact ⟨rfl, rfl⟩
    · obtain rfl := sign_one Hd.out Hn.out Hf.out (by decide) h9
      go_wp2_with fail
      go_ret
      exact ⟨rfl, rfl⟩
    · obtain rfl := sign_one Hd.out Hn.out Hf.out (by decide) h10
      go_wp2_with fail
      go_ret
      exact ⟨rfl, rfl⟩
    · obtain rfl := sign_one Hd.out Hn.out Hf.out (by decide) h11
      go_wp2_with fail
      go_ret
      exact ⟨rfl, rfl⟩
    · obtain rfl := sign_one Hd.out Hn.out Hf.out (by decide) h12
      go_wp2_with fail
      go_ret
      exact ⟨rfl, rfl⟩
    · obtain rfl := sign_one Hd.out Hn.out Hf.out (by decide) h13
      go_wp2_with fail
      go_ret
      exact ⟨rfl, rfl⟩
    · obtain rfl := sign_one Hd.out Hn.out Hf.out (by decide) h14
      go_wp2_with fail
      go_ret
      exact ⟨rfl, rfl⟩
    · obtain rfl := sign_one Hd.out Hn.out Hf.out (by decide) h15
      go_wp2_with fail
      go_ret
      exact ⟨rfl, rfl⟩
    · obtain rfl := sign_one Hd.out Hn.out Hf.out (by decide) h16
      go_wp2_with fail
      go_ret
      exact ⟨rfl, rfl⟩
    · have e := sign_rest Hd.out Hn.out Hf.out
      rw [ones_none ⟨h0, h1, h2, h3, h4, h5, h6, h7, h8, h9, h10, h11, h12, h13, h14, h15, h16⟩] at e
      simp only [Bool.false_eq_true, if_false] at e
      subst e
      go_wp2_with fail
      go_ret
      first | exact ⟨rfl, rfl⟩ | exact ⟨(by rw [show s.extract at0 (at0 + 0) = ⟨#[]⟩ from extract_nil s at0] : Ending.returned (Value.string ⟨#[]⟩) = Ending.returned (Value.string (s.extract at0 (at0 + 0)))), rfl⟩
end Go.Proofs.YtoknkgeojhekoaaDoor
