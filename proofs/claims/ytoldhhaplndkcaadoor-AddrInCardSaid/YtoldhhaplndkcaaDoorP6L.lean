/- Plain laws: groups written into an array. -/
import Derived.Test.YtoldhhaplndkcaaDoorRes
namespace Go.Proofs.YtoldhhaplndkcaaDoor
set_option linter.unusedVariables false
set_option linter.unusedSimpArgs false

theorem bytesG_append (a b : List Nat) : bytesG (a ++ b) = bytesG a ++ bytesG b := List.flatMap_append
theorem bytesG_len : ∀ gs : List Nat, (bytesG gs).length = 2 * gs.length
  | [] => rfl
  | g :: gs => by
    show ([g / 256, g % 256] ++ bytesG gs).length = _
    rw [List.length_append, bytesG_len gs]
    simp
    omega
theorem bytesG_zeros : ∀ n : Nat, bytesG (List.replicate n 0) = List.replicate (2 * n) 0
  | 0 => rfl
  | n + 1 => by
    rw [List.replicate_succ]
    show [0 / 256, 0 % 256] ++ bytesG (List.replicate n 0) = _
    rw [bytesG_zeros n, show 2 * (n + 1) = 2 * n + 1 + 1 from by omega, List.replicate_succ, List.replicate_succ]
    rfl
/-- An array, k of some groups written between A and B. -/
def arrW (A xs B : List Nat) (k : Nat) : List Nat := A ++ (bytesG (xs.take k) ++ (List.replicate (2 * (xs.length - k)) 0 ++ B))
theorem arrW_len (A xs B : List Nat) {k : Nat} (h : k ≤ xs.length) : (arrW A xs B k).length = A.length + 2 * xs.length + B.length := by
  unfold arrW
  rw [List.length_append, List.length_append, List.length_append, bytesG_len, List.length_take, List.length_replicate]
  omega
theorem arrW_at {A xs B : List Nat} {k : Nat} (h : k < xs.length) : arrW A xs B k = (A ++ bytesG (xs.take k)) ++ 0 :: 0 :: (List.replicate (2 * (xs.length - (k + 1))) 0 ++ B) := by
  unfold arrW
  rw [show 2 * (xs.length - k) = 2 * (xs.length - (k + 1)) + 1 + 1 from by omega, List.replicate_succ, List.replicate_succ, List.append_assoc]
  rfl
theorem arrW_pos {A xs : List Nat} {k : Nat} (h : k < xs.length) : (A ++ bytesG (xs.take k)).length = A.length + 2 * k := by
  rw [List.length_append, bytesG_len, List.length_take]
  omega
theorem arrW_get {A xs B : List Nat} {k : Nat} (h : k < xs.length) : (arrW A xs B k)[A.length + 2 * k]? = some 0 ∧ (arrW A xs B k)[A.length + 2 * k + 1]? = some 0 := by
  rw [arrW_at h, ← arrW_pos (A := A) h]
  constructor
  · rw [List.getElem?_append_right (Nat.le_refl _), Nat.sub_self]
    rfl
  · rw [List.getElem?_append_right (by omega), show (A ++ bytesG (xs.take k)).length + 1 - (A ++ bytesG (xs.take k)).length = 1 from by omega]
    rfl
theorem arrW_put {A xs B : List Nat} {k g : Nat} (h : k < xs.length) (hg : xs[k]? = some g) : ((arrW A xs B k).set (A.length + 2 * k) (g / 256)).set (A.length + 2 * k + 1) (g % 256) = arrW A xs B (k + 1) := by
  have ht : xs.take (k + 1) = xs.take k ++ [g] := take_succ_getD hg
  rw [arrW_at h, ← arrW_pos (A := A) h, List.set_append_right _ _ (Nat.le_refl _), Nat.sub_self, List.set_cons_zero, List.set_append_right _ _ (by omega), show (A ++ bytesG (xs.take k)).length + 1 - (A ++ bytesG (xs.take k)).length = 1 from by omega]
  show (A ++ bytesG (xs.take k)) ++ (g / 256 :: g % 256 :: _) = _
  unfold arrW
  rw [ht, bytesG_append, List.append_assoc, List.append_assoc]
  rfl
theorem arrW_done (A xs B : List Nat) : arrW A xs B xs.length = A ++ (bytesG xs ++ B) := by
  unfold arrW
  rw [List.take_of_length_le (Nat.le_refl _), Nat.sub_self]
  rfl
theorem arrW_start (A xs B : List Nat) : arrW A xs B 0 = A ++ (List.replicate (2 * xs.length) 0 ++ B) := by
  unfold arrW
  rw [List.take_zero]
  rfl
theorem rep_add (a b : Nat) : List.replicate a 0 ++ List.replicate b 0 = List.replicate (a + b) (0 : Nat) := List.replicate_append_replicate
/-- Between the two rows. -/
theorem arr_mid {x y : List Nat} (h : x.length + y.length ≤ 8) : arrW [] x (List.replicate (16 - 2 * x.length) 0) x.length = arrW (bytesG x ++ List.replicate (16 - 2 * x.length - 2 * y.length) 0) y [] 0 := by
  rw [arrW_done, arrW_start, List.append_nil, List.append_assoc, rep_add]
  show bytesG x ++ _ = _
  congr 2
  omega
theorem arr_end {x y : List Nat} (h : x.length + y.length ≤ 8) : arrW (bytesG x ++ List.replicate (16 - 2 * x.length - 2 * y.length) 0) y [] y.length = bytesG (x ++ List.replicate (8 - x.length - y.length) 0 ++ y) := by
  rw [arrW_done, List.append_nil, bytesG_append, bytesG_append, bytesG_zeros, show 16 - 2 * x.length - 2 * y.length = 2 * (8 - x.length - y.length) from by omega]
theorem arr_0 {x : List Nat} (h : x.length ≤ 8) : arrW [] x (List.replicate (16 - 2 * x.length) 0) 0 = List.replicate 16 0 := by
  rw [arrW_start, rep_add]
  show List.replicate _ 0 = _
  congr 1
  omega
abbrev zero16 : List Nat := List.replicate 16 0
theorem mid_len {x y : List Nat} (h : x.length + y.length ≤ 8) : (bytesG x ++ List.replicate (16 - 2 * x.length - 2 * y.length) 0).length = 16 - 2 * y.length := by
  rw [List.length_append, bytesG_len, List.length_replicate]
  omega
theorem ArrAt.put2 {t : TypeId} {w : World} {b : Nat} {A xs B : List Nat} {k g : Nat} (h : ArrAt t w b (arrW A xs B k)) (hk : k < xs.length) (hg : xs[k]? = some g) :
    ArrAt t ((w.setCell ⟨b, A.length + 2 * k, none⟩ (.int .u8 ((g / 256 : Nat) : Int))).setCell ⟨b, A.length + 2 * k + 1, none⟩ (.int .u8 ((g % 256 : Nat) : Int))) b (arrW A xs B (k + 1)) := by
  have hl := arrW_len A xs B (Nat.le_of_lt hk)
  have h1 := h.set (g / 256) (i := A.length + 2 * k) (by rw [hl]; omega)
  have h2 := h1.set (g % 256) (i := A.length + 2 * k + 1) (by rw [List.length_set, hl]; omega)
  rw [arrW_put hk hg] at h2
  exact h2
theorem mapO_grp {l : List (List UInt8)} {gs : List Nat} (h : mapO grpL l = some gs) : ∀ g ∈ gs, g < 65536 := fun g hg => by
  obtain ⟨x, _, hx⟩ := mapO_mem _ _ h g hg
  exact grp_lt hx
theorem readG_lt {l : List UInt8} {gs : List Nat} (h : readG l = some gs) : ∀ g ∈ gs, g < 65536 := by
  unfold readG at h
  split at h
  · cases h; intro g hg; cases hg
  · exact mapO_grp h
theorem rg_read {l : List UInt8} {gs : List Nat} (h : rgL l = some gs) : readG l = some gs ∧ gs.length ≤ 8 := by
  unfold rgL at h
  unfold readG
  split at h
  · rename_i h0
    cases h
    rw [if_pos h0]
    exact ⟨rfl, by decide⟩
  · rename_i h0
    rw [if_neg h0]
    split at h
    · rename_i h8
      exact ⟨h, by rw [mapO_len _ _ h]; exact h8⟩
    · cases h
theorem read_rg {l : List UInt8} (h : rgL l = none) : readG l = none ∨ ∃ gs, readG l = some gs ∧ 8 < gs.length := by
  unfold rgL at h
  unfold readG
  split at h
  · cases h
  · rename_i h0
    rw [if_neg h0]
    split at h
    · exact .inl h
    · rename_i h8
      cases hm : mapO grpL (splitL 58 l) with
      | none => exact .inl rfl
      | some gs => exact .inr ⟨gs, rfl, by rw [mapO_len _ _ hm]; omega⟩
theorem p6_none {l : List UInt8} (h : readG (Lib.cut l [58, 58]).1 = none ∨ readG (Lib.cut l [58, 58]).2.1 = none) : p6L l = none := by
  unfold p6L
  rcases h with h | h
  · rw [h]
  · rw [h]
    cases readG (Lib.cut l [58, 58]).1 <;> rfl
theorem p6_some {l : List UInt8} {x y : List Nat} (h1 : readG (Lib.cut l [58, 58]).1 = some x) (h2 : readG (Lib.cut l [58, 58]).2.1 = some y) : p6L l = if (Lib.cut l [58, 58]).2.2 = true then (if x.length + y.length ≤ 7 then some (x ++ List.replicate (8 - x.length - y.length) 0 ++ y) else none) else if x.length = 8 then some x else none := by
  unfold p6L
  rw [h1, h2]
theorem p6_lt {l : List UInt8} {gs : List Nat} (h : p6L l = some gs) : gs.length = 8 ∧ ∀ g ∈ gs, g < 65536 := by
  cases h1 : readG (Lib.cut l [58, 58]).1 with
  | none => rw [p6_none (.inl h1)] at h; cases h
  | some x =>
    cases h2 : readG (Lib.cut l [58, 58]).2.1 with
    | none => rw [p6_none (.inr h2)] at h; cases h
    | some y =>
      rw [p6_some h1 h2] at h
      have hx := readG_lt h1
      have hy := readG_lt h2
      split at h
      · split at h
        · cases h
          refine ⟨by rw [List.length_append, List.length_append, List.length_replicate]; omega, fun g hg => ?_⟩
          rcases List.mem_append.1 hg with hg | hg
          · rcases List.mem_append.1 hg with hg | hg
            · exact hx g hg
            · have := (List.mem_replicate.1 hg).2; omega
          · exact hy g hg
        · cases h
      · split at h
        · rename_i h8
          cases h
          exact ⟨h8, hx⟩
        · cases h
end Go.Proofs.YtoldhhaplndkcaaDoor
