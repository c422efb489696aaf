/- Sixt, Res, P6L, P6R, P6W, Pr6L, Hex2, RowR, P6Q, FmtU, Each, Nought, BuildK, Pr6W, one behind the other. -/
import Derived.Test.YtffkaphbgfdpaaaGreatDoorMAa
import Derived.Laws.BitsLemmas
import Derived.StillTailTactics
import Derived.Outline
import Derived.Deep.RegionHeld3
import Derived.IntWalk
import Derived.RangeFuncNested
import Derived.RangeFuncBound
import Derived.RangeFuncCalls
import Derived.RangeFuncLeaves
import Derived.RangeFuncMany
import Derived.RangeFuncFrom
import Derived.Shelf.Abstract
import Derived.Shelf.RegionOpen
import Derived.WalkKit
import Derived.OwnWalkIn
import Derived.TacticsInMore
import Derived.LoopNIn
import Derived.LoopIn
import Derived.Sort.LoopGhostIn
import Derived.RangeFuncOwn
import Derived.RangeFuncBox
import Derived.RegionTactic
import Derived.ChangeAlike
import Derived.Lib.UnsafeStr
section
/- Arrays of sixteen bytes: loaded and stored whole; groups as bytes. -/
namespace Go.Proofs.YtffkaphbgfdpaaaGreatDoor
open Go.RowKit Go.Shelf
set_option linter.unusedVariables false
set_option linter.unusedSimpArgs false

/-- The array's cells, as a name. -/
def a16 (l : List Nat) : Array Value := (l.map c8).toArray
abbrev agg16 (l : List Nat) : Value := .agg (a16 l)
abbrev T16 : TypeId := 35
theorem a16_size (l : List Nat) : (a16 l).size = l.length := by simp [a16]
theorem size16 : (Tryz.prog.info? 35).map (·.size) = some 16 := by kernel_rfl
/-- A whole array, loaded and stored: names that the walk doesn't open. -/
def loadA (v : Value) : Sem Value := Instr.loadAt 35 v
def storeA (v x : Value) : Sem Unit := Instr.storeAt 35 v x
@[go_sem ↓] theorem execOp_load_arr (ρ : Operand → Value) (dst : Option Tmp) (x : Operand) (ty : TypeId) (pos : String) (after : Array Edge) (guard : Option (Nat × Bool)) :
    execOp ρ { dst, op := .load 35 x, type := ty, pos, after, guard } = (do pure (.value (← loadA (ρ x)))) := rfl
@[go_sem ↓] theorem execOp_store_arr (ρ : Operand → Value) (dst : Option Tmp) (x y : Operand) (ty : TypeId) (pos : String) (after : Array Edge) (guard : Option (Nat × Bool)) :
    execOp ρ { dst, op := .store 35 x y, type := ty, pos, after, guard } = (do storeA (ρ x) (ρ y); pure .skip) := rfl
theorem run_loadA {w : World} {b : Nat} {l : List Nat} (h : ArrAt T16 w b l) (hl : l.length = 16) : (loadA (.pointer (some ⟨b, 0, none⟩))).run Tryz.prog w = .ok (agg16 l) w := by
  have := run_loadVar_row (P := Tryz.prog) w b T16 T16 (a16 l) (0, 0) _ h Tryz.underlying35 rfl (by rw [size16, a16_size, hl])
  simp only [loadA, Instr.loadAt, Instr.sureAddr, Sem.run_bind, Sem.run_pure, Result.andThen_ok]
  exact this
theorem oneCell16 (l : List Nat) : (a16 l).all (·.oneCell') = true := by
  rw [Array.all_eq_true_iff_forall_mem]
  intro u hu
  simp only [a16, List.mem_toArray, List.mem_map] at hu
  obtain ⟨n, _, rfl⟩ := hu
  rfl
theorem run_storeA {w : World} {b : Nat} {l m : List Nat} (h : ArrAt T16 w b l) (hl : l.length = 16) (hm : m.length = 16) : (storeA (.pointer (some ⟨b, 0, none⟩)) (agg16 m)).run Tryz.prog w = .ok () (w.setRow b (a16 m)) := by
  have := run_storeVar_row (P := Tryz.prog) w b T16 T16 (a16 l) (a16 m) h (by rw [size16, a16_size, hm]) (by rw [a16_size, a16_size, hl, hm]) (oneCell16 m)
  simp only [storeA, Instr.storeAt, Instr.sureAddr, Sem.run_bind, Sem.run_pure, Result.andThen_ok]
  exact this
theorem ArrAt.setRow {t : TypeId} {w : World} {b : Nat} {l m : List Nat} (h : ArrAt t w b l) : ArrAt t (w.setRow b (a16 m)) b m := by
  unfold ArrAt at *
  simp only [World.setRow]
  rw [Array.getElem?_modify, if_pos rfl, h]
  rfl
theorem below_setRow {B b : Nat} {w W : World} (h : Below B w W) (hb : B ≤ b) (cs : Array Value) : Below B w (W.setRow b cs) := by
  refine h.trans ⟨rfl, rfl, rfl, by simp, fun i hi => ?_⟩
  simp only [World.setRow, Array.getElem?_modify]
  rw [if_neg (by omega)]
end Go.Proofs.YtffkaphbgfdpaaaGreatDoor
end

section
/- What is returned: an array of sixteen and a number. -/
namespace Go.Proofs.YtffkaphbgfdpaaaGreatDoor
open Go.RowKit Go.Shelf
set_option linter.unusedVariables false
set_option linter.unusedSimpArgs false

theorem results_16 {fn : Func} {p q : Tmp} (h : fn.results = #[.cell p 35, .tmp q]) (tmps : Array Value) (w : World) {b : Nat} {l : List Nat} (hp : tmps.getD p undef = .pointer (some ⟨b, 0, none⟩)) (hA : ArrAt T16 w b l) (hl : l.length = 16) :
    (results fn tmps).run Tryz.prog w = .ok (.tuple #[agg16 l, tmps.getD q undef]) w := by
  have hload := run_loadVar_row (P := Tryz.prog) w b T16 T16 (a16 l) (0, 0) _ hA Tryz.underlying35 rfl (by rw [size16, a16_size, hl])
  have hp' : tmps[p]?.getD undef = .pointer (some ⟨b, 0, none⟩) := by simpa using hp
  simp [results, h, hp', asAddr, hload]
end Go.Proofs.YtffkaphbgfdpaaaGreatDoor
end

section
/- Plain laws: groups written into an array. -/
namespace Go.Proofs.YtffkaphbgfdpaaaGreatDoor
set_option linter.unusedVariables false
set_option linter.unusedSimpArgs false

theorem bytesG_append (a b : List Nat) : bytesG (a ++ b) = bytesG a ++ bytesG b := List.flatMap_append
theorem bytesG_len : ∀ gs : List Nat, (bytesG gs).length = 2 * gs.length
  | [] => rfl
  | g :: gs => by
    show ([g / 256, g % 256] ++ bytesG gs).length = _
    rw [List.length_append, bytesG_len gs]
    simp
    omega
theorem bytesG_zeros : ∀ n : Nat, bytesG (List.replicate n 0) = List.replicate (2 * n) 0
  | 0 => rfl
  | n + 1 => by
    rw [List.replicate_succ]
    show [0 / 256, 0 % 256] ++ bytesG (List.replicate n 0) = _
    rw [bytesG_zeros n, show 2 * (n + 1) = 2 * n + 1 + 1 from by omega, List.replicate_succ, List.replicate_succ]
    rfl
/-- An array, k of some groups written between A and B. -/
def arrW (A xs B : List Nat) (k : Nat) : List Nat := A ++ (bytesG (xs.take k) ++ (List.replicate (2 * (xs.length - k)) 0 ++ B))
theorem arrW_len (A xs B : List Nat) {k : Nat} (h : k ≤ xs.length) : (arrW A xs B k).length = A.length + 2 * xs.length + B.length := by
  unfold arrW
  rw [List.length_append, List.length_append, List.length_append, bytesG_len, List.length_take, List.length_replicate]
  omega
theorem arrW_at {A xs B : List Nat} {k : Nat} (h : k < xs.length) : arrW A xs B k = (A ++ bytesG (xs.take k)) ++ 0 :: 0 :: (List.replicate (2 * (xs.length - (k + 1))) 0 ++ B) := by
  unfold arrW
  rw [show 2 * (xs.length - k) = 2 * (xs.length - (k + 1)) + 1 + 1 from by omega, List.replicate_succ, List.replicate_succ, List.append_assoc]
  rfl
theorem arrW_pos {A xs : List Nat} {k : Nat} (h : k < xs.length) : (A ++ bytesG (xs.take k)).length = A.length + 2 * k := by
  rw [List.length_append, bytesG_len, List.length_take]
  omega
theorem arrW_get {A xs B : List Nat} {k : Nat} (h : k < xs.length) : (arrW A xs B k)[A.length + 2 * k]? = some 0 ∧ (arrW A xs B k)[A.length + 2 * k + 1]? = some 0 := by
  rw [arrW_at h, ← arrW_pos (A := A) h]
  constructor
  · rw [List.getElem?_append_right (Nat.le_refl _), Nat.sub_self]
    rfl
  · rw [List.getElem?_append_right (by omega), show (A ++ bytesG (xs.take k)).length + 1 - (A ++ bytesG (xs.take k)).length = 1 from by omega]
    rfl
theorem arrW_put {A xs B : List Nat} {k g : Nat} (h : k < xs.length) (hg : xs[k]? = some g) : ((arrW A xs B k).set (A.length + 2 * k) (g / 256)).set (A.length + 2 * k + 1) (g % 256) = arrW A xs B (k + 1) := by
  have ht : xs.take (k + 1) = xs.take k ++ [g] := take_succ_getD hg
  rw [arrW_at h, ← arrW_pos (A := A) h, List.set_append_right _ _ (Nat.le_refl _), Nat.sub_self, List.set_cons_zero, List.set_append_right _ _ (by omega), show (A ++ bytesG (xs.take k)).length + 1 - (A ++ bytesG (xs.take k)).length = 1 from by omega]
  show (A ++ bytesG (xs.take k)) ++ (g / 256 :: g % 256 :: _) = _
  unfold arrW
  rw [ht, bytesG_append, List.append_assoc, List.append_assoc]
  rfl
theorem arrW_done (A xs B : List Nat) : arrW A xs B xs.length = A ++ (bytesG xs ++ B) := by
  unfold arrW
  rw [List.take_of_length_le (Nat.le_refl _), Nat.sub_self]
  rfl
theorem arrW_start (A xs B : List Nat) : arrW A xs B 0 = A ++ (List.replicate (2 * xs.length) 0 ++ B) := by
  unfold arrW
  rw [List.take_zero]
  rfl
theorem rep_add (a b : Nat) : List.replicate a 0 ++ List.replicate b 0 = List.replicate (a + b) (0 : Nat) := List.replicate_append_replicate
/-- Between the two rows. -/
theorem arr_mid {x y : List Nat} (h : x.length + y.length ≤ 8) : arrW [] x (List.replicate (16 - 2 * x.length) 0) x.length = arrW (bytesG x ++ List.replicate (16 - 2 * x.length - 2 * y.length) 0) y [] 0 := by
  rw [arrW_done, arrW_start, List.append_nil, List.append_assoc, rep_add]
  show bytesG x ++ _ = _
  congr 2
  omega
theorem arr_end {x y : List Nat} (h : x.length + y.length ≤ 8) : arrW (bytesG x ++ List.replicate (16 - 2 * x.length - 2 * y.length) 0) y [] y.length = bytesG (x ++ List.replicate (8 - x.length - y.length) 0 ++ y) := by
  rw [arrW_done, List.append_nil, bytesG_append, bytesG_append, bytesG_zeros, show 16 - 2 * x.length - 2 * y.length = 2 * (8 - x.length - y.length) from by omega]
theorem arr_0 {x : List Nat} (h : x.length ≤ 8) : arrW [] x (List.replicate (16 - 2 * x.length) 0) 0 = List.replicate 16 0 := by
  rw [arrW_start, rep_add]
  show List.replicate _ 0 = _
  congr 1
  omega
abbrev zero16 : List Nat := List.replicate 16 0
theorem mid_len {x y : List Nat} (h : x.length + y.length ≤ 8) : (bytesG x ++ List.replicate (16 - 2 * x.length - 2 * y.length) 0).length = 16 - 2 * y.length := by
  rw [List.length_append, bytesG_len, List.length_replicate]
  omega
theorem ArrAt.put2 {t : TypeId} {w : World} {b : Nat} {A xs B : List Nat} {k g : Nat} (h : ArrAt t w b (arrW A xs B k)) (hk : k < xs.length) (hg : xs[k]? = some g) :
    ArrAt t ((w.setCell ⟨b, A.length + 2 * k, none⟩ (.int .u8 ((g / 256 : Nat) : Int))).setCell ⟨b, A.length + 2 * k + 1, none⟩ (.int .u8 ((g % 256 : Nat) : Int))) b (arrW A xs B (k + 1)) := by
  have hl := arrW_len A xs B (Nat.le_of_lt hk)
  have h1 := h.set (g / 256) (i := A.length + 2 * k) (by rw [hl]; omega)
  have h2 := h1.set (g % 256) (i := A.length + 2 * k + 1) (by rw [List.length_set, hl]; omega)
  rw [arrW_put hk hg] at h2
  exact h2
theorem mapO_grp {l : List (List UInt8)} {gs : List Nat} (h : mapO grpL l = some gs) : ∀ g ∈ gs, g < 65536 := fun g hg => by
  obtain ⟨x, _, hx⟩ := mapO_mem _ _ h g hg
  exact grp_lt hx
theorem readG_lt {l : List UInt8} {gs : List Nat} (h : readG l = some gs) : ∀ g ∈ gs, g < 65536 := by
  unfold readG at h
  split at h
  · cases h; intro g hg; cases hg
  · exact mapO_grp h
theorem rg_read {l : List UInt8} {gs : List Nat} (h : rgL l = some gs) : readG l = some gs ∧ gs.length ≤ 8 := by
  unfold rgL at h
  unfold readG
  split at h
  · rename_i h0
    cases h
    rw [if_pos h0]
    exact ⟨rfl, by decide⟩
  · rename_i h0
    rw [if_neg h0]
    split at h
    · rename_i h8
      exact ⟨h, by rw [mapO_len _ _ h]; exact h8⟩
    · cases h
theorem read_rg {l : List UInt8} (h : rgL l = none) : readG l = none ∨ ∃ gs, readG l = some gs ∧ 8 < gs.length := by
  unfold rgL at h
  unfold readG
  split at h
  · cases h
  · rename_i h0
    rw [if_neg h0]
    split at h
    · exact .inl h
    · rename_i h8
      cases hm : mapO grpL (splitL 58 l) with
      | none => exact .inl rfl
      | some gs => exact .inr ⟨gs, rfl, by rw [mapO_len _ _ hm]; omega⟩
theorem p6_none {l : List UInt8} (h : readG (Lib.cut l [58, 58]).1 = none ∨ readG (Lib.cut l [58, 58]).2.1 = none) : p6L l = none := by
  unfold p6L
  rcases h with h | h
  · rw [h]
  · rw [h]
    cases readG (Lib.cut l [58, 58]).1 <;> rfl
theorem p6_some {l : List UInt8} {x y : List Nat} (h1 : readG (Lib.cut l [58, 58]).1 = some x) (h2 : readG (Lib.cut l [58, 58]).2.1 = some y) : p6L l = if (Lib.cut l [58, 58]).2.2 = true then (if x.length + y.length ≤ 7 then some (x ++ List.replicate (8 - x.length - y.length) 0 ++ y) else none) else if x.length = 8 then some x else none := by
  unfold p6L
  rw [h1, h2]
theorem p6_lt {l : List UInt8} {gs : List Nat} (h : p6L l = some gs) : gs.length = 8 ∧ ∀ g ∈ gs, g < 65536 := by
  cases h1 : readG (Lib.cut l [58, 58]).1 with
  | none => rw [p6_none (.inl h1)] at h; cases h
  | some x =>
    cases h2 : readG (Lib.cut l [58, 58]).2.1 with
    | none => rw [p6_none (.inr h2)] at h; cases h
    | some y =>
      rw [p6_some h1 h2] at h
      have hx := readG_lt h1
      have hy := readG_lt h2
      split at h
      · split at h
        · cases h
          refine ⟨by rw [List.length_append, List.length_append, List.length_replicate]; omega, fun g hg => ?_⟩
          rcases List.mem_append.1 hg with hg | hg
          · rcases List.mem_append.1 hg with hg | hg
            · exact hx g hg
            · have := (List.mem_replicate.1 hg).2; omega
          · exact hy g hg
        · cases h
      · split at h
        · rename_i h8
          cases h
          exact ⟨h8, hx⟩
        · cases h
end Go.Proofs.YtffkaphbgfdpaaaGreatDoor
end

section
/- The document's Parse6. -/
namespace Go.Proofs.YtffkaphbgfdpaaaGreatDoor
open Go.RowKit Go.Shelf Go.Deep
set_option linter.unusedVariables false
set_option linter.unusedSimpArgs false

theorem ArrAt.put2' {t : TypeId} {w : World} {b : Nat} {A xs B : List Nat} {k g p : Nat} (h : ArrAt t w b (arrW A xs B k)) (hk : k < xs.length) (hg : xs[k]? = some g) (hp : A.length + 2 * k = p) :
    ArrAt t ((w.setCell ⟨b, p, none⟩ (.int .u8 ((g / 256 : Nat) : Int))).setCell ⟨b, p + 1, none⟩ (.int .u8 ((g % 256 : Nat) : Int))) b (arrW A xs B (k + 1)) := by
  subst hp
  exact h.put2 hk hg
theorem ArrAt.cells2 {t : TypeId} {w : World} {b : Nat} {A xs B : List Nat} {k p : Nat} (h : ArrAt t w b (arrW A xs B k)) (hk : k < xs.length) (hp : A.length + 2 * k = p) :
    w.cell? ⟨b, p, none⟩ = some (.int .u8 0) ∧ w.cell? ⟨b, p + 1, none⟩ = some (.int .u8 0) ∧ w.frozen? ⟨b, p, none⟩ = false ∧ w.frozen? ⟨b, p + 1, none⟩ = false := by
  subst hp
  obtain ⟨h1, h2⟩ := arrW_get (A := A) (B := B) hk
  exact ⟨h.cell h1, h.cell h2, h.frozen _, h.frozen _⟩
theorem RdEnd.any {enc : Nat → List Value} {t : TypeId} {w w' : World} {o : Option (List Nat)} {e : Ending} (E : EncOk 1 enc) (h : RdEnd enc t w o e w') : (∃ A n c, e = .returned (.tuple #[.slice A n c, .bool o.isSome])) ∧ Below w.heap.size w w' := by
  obtain ⟨h1, h2⟩ := h
  refine ⟨?_, h2⟩
  cases o with
  | none => exact ⟨_, _, _, h1⟩
  | some gs =>
    obtain ⟨v, rfl, hO⟩ := h1
    obtain ⟨A, c, rfl, _⟩ := OwnG.rs E hO
    exact ⟨_, _, _, rfl⟩
/-- The two halves of a text at its first gap. -/
theorem cut_cases (s : ByteArray) : ∃ (H T : ByteArray) (f : Bool), H.data.toList = (Lib.cut s.data.toList [58, 58]).1 ∧ T.data.toList = (Lib.cut s.data.toList [58, 58]).2.1 ∧ (Lib.cut s.data.toList [58, 58]).2.2 = f ∧ H.size ≤ s.size ∧ T.size ≤ s.size ∧
    ((f = true ∧ ∃ n : Nat, Lib.index s.data.toList [58, 58] = (n : Int) ∧ n + 2 ≤ s.size ∧ H = s.extract 0 n ∧ T = s.extract (n + 2) s.size) ∨ (f = false ∧ Lib.index s.data.toList [58, 58] = -1 ∧ H = s ∧ T = ⟨#[]⟩)) := by
  rcases Lib.indexB_cases s ⟨#[58, 58]⟩ with h | ⟨n, h, hn⟩
  · have h : Lib.index s.data.toList [58, 58] = -1 := h
    have hc : Lib.cut s.data.toList [58, 58] = (s.data.toList, [], false) := by
      unfold Lib.cut
      rw [h, if_neg (by decide)]
    refine ⟨s, ⟨#[]⟩, false, by rw [hc], by rw [hc], by rw [hc], Nat.le_refl _, Nat.zero_le _, .inr ⟨rfl, h, rfl, rfl⟩⟩
  · have h : Lib.index s.data.toList [58, 58] = (n : Int) := h
    have hn : n + 2 ≤ s.size := hn
    have hc : Lib.cut s.data.toList [58, 58] = (s.data.toList.take n, s.data.toList.drop (n + 2), true) := by
      unfold Lib.cut
      rw [h, if_pos (by omega)]
      rfl
    refine ⟨s.extract 0 n, s.extract (n + 2) s.size, true, ?_, ?_, by rw [hc], by rw [ByteArray.size_extract]; omega, by rw [ByteArray.size_extract]; omega, .inl ⟨rfl, n, h, hn, rfl, rfl⟩⟩
    · rw [hc, extract_list, List.drop_zero]
      rfl
    · rw [hc, extract_list, List.take_of_length_le (by rw [List.length_drop, size_list]; omega)]
/-- Is the count of groups a wrong one? -/
def badG (f : Bool) (x y : List Nat) : Bool := if f then decide (7 < x.length + y.length) else decide (x.length ≠ 8)
theorem p6_bad {l : List UInt8} {x y : List Nat} {f : Bool} (h1 : readG (Lib.cut l [58, 58]).1 = some x) (h2 : readG (Lib.cut l [58, 58]).2.1 = some y) (hf : (Lib.cut l [58, 58]).2.2 = f) (h : badG f x y = true) : p6L l = none := by
  rw [p6_some h1 h2, hf]
  cases f with
  | true =>
    have h : 7 < x.length + y.length := by simpa [badG] using h
    rw [if_pos rfl, if_neg (by omega)]
  | false =>
    have h : x.length ≠ 8 := by simpa [badG] using h
    rw [if_neg (by decide), if_neg h]
theorem p6_good {l : List UInt8} {x y : List Nat} {f : Bool} (h1 : readG (Lib.cut l [58, 58]).1 = some x) (h2 : readG (Lib.cut l [58, 58]).2.1 = some y) (hf : (Lib.cut l [58, 58]).2.2 = f) (hy : f = false → y = []) (h : badG f x y = false) : p6L l = some (x ++ List.replicate (8 - x.length - y.length) 0 ++ y) ∧ x.length + y.length ≤ 8 := by
  rw [p6_some h1 h2, hf]
  cases f with
  | true =>
    have h : x.length + y.length ≤ 7 := by simpa [badG] using h
    rw [if_pos rfl, if_pos h]
    exact ⟨rfl, by omega⟩
  | false =>
    have h : x.length = 8 := by simpa [badG] using h
    rw [if_neg (by decide), if_pos h, hy rfl]
    constructor
    · congr 1
      simp [h]
    · simp [h]
theorem cut_no {l : List UInt8} (h : (Lib.cut l [58, 58]).2.2 = false) : (Lib.cut l [58, 58]).2.1 = [] := by
  unfold Lib.cut at h ⊢
  split at h
  · cases h
  · rename_i h2
    rw [if_neg h2]
theorem p6_rg1 {l : List UInt8} (h : rgL (Lib.cut l [58, 58]).1 = none) : p6L l = none := by
  rcases read_rg h with h | ⟨x, h, h8⟩
  · exact p6_none (.inl h)
  · cases hy : readG (Lib.cut l [58, 58]).2.1 with
    | none => exact p6_none (.inr hy)
    | some y =>
      rw [p6_some h hy]
      split
      · rw [if_neg (by omega)]
      · rw [if_neg (by omega)]
theorem p6_rg2 {l : List UInt8} (h : rgL (Lib.cut l [58, 58]).2.1 = none) : p6L l = none := by
  rcases read_rg h with h2 | ⟨y, h2, h8⟩
  · exact p6_none (.inr h2)
  · cases hx : readG (Lib.cut l [58, 58]).1 with
    | none => exact p6_none (.inl hx)
    | some x =>
      rw [p6_some hx h2]
      split
      · rw [if_neg (by omega)]
      · rename_i hf
        have := cut_no (l := l) (by simpa using hf)
        rw [this] at h
        cases h
theorem read_nil {y : List Nat} (h : readG [] = some y) : y = [] := by
  cases h
  rfl
abbrev zero8 : List Nat := List.replicate 8 0
end Go.Proofs.YtffkaphbgfdpaaaGreatDoor
end

section
/- addr.Parse6. -/
namespace Go.Proofs.YtffkaphbgfdpaaaGreatDoor
open Go.RowKit Go.Shelf Go.Deep
set_option linter.unusedVariables false
set_option linter.unusedSimpArgs false

theorem readG_len {l : List UInt8} {gs : List Nat} (h : readG l = some gs) : gs.length ≤ l.length + 1 := by
  unfold readG at h
  split at h
  · cases h; exact Nat.zero_le _
  · rw [mapO_len _ _ h]
    exact splitL_len 58 l
set_option maxRecDepth 100000 in
set_option maxHeartbeats 6400000 in
theorem parse6_any (s : ByteArray) (m : Int) (w : World) (hs : s.size ≤ 1048576) (hm : w.cell? ⟨0, 0, none⟩ = some (.int .i64 m)) : Calls Tryz.prog 219 #[.string s] w fun e w' => e = .returned (.tuple #[agg16 (bytesG ((p6L s.data.toList).getD zero8)), .int .i64 (err60 (p6L s.data.toList))]) ∧ Below w.heap.size w w' := by
  obtain ⟨R, hR⟩ : ∃ R, p6L s.data.toList = R := ⟨_, rfl⟩
  rw [hR]
  have HR := Lib.hid hR
  have Hm := Lib.hid hm
  have cg := fun W hW => Tryz.strings_Cut s ⟨#[58, 58]⟩ m W (by omega) (max_later hm hW)
  obtain ⟨H, hH0⟩ : ∃ H : ByteArray, (⟨(Lib.cut s.data.toList (⟨#[58, 58]⟩ : ByteArray).data.toList).1.toArray⟩ : ByteArray) = H := ⟨_, rfl⟩
  obtain ⟨T, hT0⟩ : ∃ T : ByteArray, (⟨(Lib.cut s.data.toList (⟨#[58, 58]⟩ : ByteArray).data.toList).2.1.toArray⟩ : ByteArray) = T := ⟨_, rfl⟩
  obtain ⟨f, hf⟩ : ∃ f, (Lib.cut s.data.toList [58, 58]).2.2 = f := ⟨_, rfl⟩
  have hf0 : (Lib.cut s.data.toList (⟨#[58, 58]⟩ : ByteArray).data.toList).2.2 = f := hf
  simp only [hH0, hT0, hf0] at cg
  have hH : H.data.toList = (Lib.cut s.data.toList [58, 58]).1 := by rw [← hH0]
  have hT : T.data.toList = (Lib.cut s.data.toList [58, 58]).2.1 := by rw [← hT0]
  obtain ⟨H', T', f', q1, q2, q3, q4, q5, q6⟩ := cut_cases s
  have hHs2 : H.size ≤ 1048576 := by rw [← size_list, hH, ← q1, size_list]; omega
  have hTs2 : T.size ≤ 1048576 := by rw [← size_list, hT, ← q2, size_list]; omega
  have HH := Lib.hid hH
  have HT := Lib.hid hT
  have Hf := Lib.hid hf
  have hB00 : Below w.heap.size w (w.alloc (.cells (zero16.map c8).toArray 35)) := (Below.refl _ w).alloc (Nat.le_refl _) _
  have Cg := Lib.hid (cg _ hB00)
  clear hR hm hH hT hf cg hH0 hT0 hf0 q1 q2 q3 q4 q5 q6 hB00
  go_enter Tryz.func219, Tryz.ntmps219
  go_wp2_with fail
  refine Cg.out.mono ?_
  rintro e w00 ⟨rfl, nn, hw0⟩
  have hB0 : Below w.heap.size w w00 := by rw [hw0]; exact belowN ((Below.refl _ w).alloc (Nat.le_refl _) _) nn
  have hr0 : ArrAt T16 w00 w.heap.size zero16 := by rw [hw0]; exact ArrAt.new T16 w zero16
  have HW2 := Lib.hid (show w.heap.size + 1 ≤ w00.heap.size by rw [hw0]; simp)
  have HB0 := Lib.hid hB0
  have Hr0 := Lib.hid hr0
  clear hB0 hr0 hw0
  have cx := read_any H m w00 hHs2 (max_later Hm.out HB0.out)
  have cy := fun W (hW : Below w00.heap.size w00 W) => read_any T m W hTs2 (max_later Hm.out (HB0.out.trans (hW.mono HB0.out.size)))
  cases hx : readG H.data.toList with
  | none =>
    rw [hx] at cx
    have hn : p6L s.data.toList = none := p6_none (.inl (by rw [← HH.out]; exact hx))
    have HF := Lib.hid (HR.out.symm.trans hn)
    have Cx := Lib.hid cx
    have Cy := Lib.hid (fun W hW => (cy W hW).mono fun e w' h => RdEnd.any enc16_ok h)
    clear cx cy hn hx
    go_wp2_with fail
    refine Cx.out.mono ?_
    rintro e w1 ⟨h1, hB1⟩
    have h1 : e = .returned (.tuple #[.slice none 0 0, .bool false]) := h1
    subst h1
    have HB1 := Lib.hid hB1
    clear hB1
    go_wp2_with fail
    refine (Cy.out _ HB1.out).mono ?_
    rintro e w2 ⟨⟨A, n, c, rfl⟩, hB2⟩
    have hB2 := HB1.out.trans (hB2.mono HB1.out.size)
    have R0 := Lib.hid (Hr0.out.later hB2)
    have HB := Lib.hid (HB0.out.trans (hB2.mono HB0.out.size))
    clear hB2
    have st : (storeA (.pointer (some ⟨w.heap.size, 0, none⟩)) (.agg #[.int .u8 0, .int .u8 0, .int .u8 0, .int .u8 0, .int .u8 0, .int .u8 0, .int .u8 0, .int .u8 0, .int .u8 0, .int .u8 0, .int .u8 0, .int .u8 0, .int .u8 0, .int .u8 0, .int .u8 0, .int .u8 0])).run Tryz.prog w2 = .ok () (w2.setRow w.heap.size (a16 zero16)) := run_storeA (m := zero16) R0.out (by decide) (by decide)
    go_wp2_with fail
    refine bodyPost_ret (results_16 Tryz.results219 _ _ rfl (ArrAt.setRow (m := zero16) R0.out) (by decide)) rfl ⟨by rw [HF.out]; rfl, below_setRow HB.out (Nat.le_refl _) _⟩
  | some x =>
    have hx1 := hx
    rw [hx] at cx
    have Cx := Lib.hid cx
    cases hy : readG T.data.toList with
    | none =>
      have hn : p6L s.data.toList = none := p6_none (.inr (by rw [← HT.out]; exact hy))
      have HF := Lib.hid (HR.out.symm.trans hn)
      rw [hy] at cy
      have Cy := Lib.hid cy
      clear cx cy hn hx hy hx1
      go_wp2_with fail
      refine Cx.out.mono ?_
      rintro e w1 ⟨⟨v, rfl, hO⟩, hB1⟩
      obtain ⟨A, c, rfl, _⟩ := OwnG.rs enc16_ok hO
      have HB1 := Lib.hid hB1
      clear hB1 hO
      go_wp2_with fail
      refine (Cy.out _ HB1.out).mono ?_
      rintro e w2 ⟨h2, hB2⟩
      have h2 : e = .returned (.tuple #[.slice none 0 0, .bool false]) := h2
      subst h2
      have hB2 := HB1.out.trans (hB2.mono HB1.out.size)
      have R0 := Lib.hid (Hr0.out.later hB2)
      have HB := Lib.hid (HB0.out.trans (hB2.mono HB0.out.size))
      clear hB2
      have st : (storeA (.pointer (some ⟨w.heap.size, 0, none⟩)) (.agg #[.int .u8 0, .int .u8 0, .int .u8 0, .int .u8 0, .int .u8 0, .int .u8 0, .int .u8 0, .int .u8 0, .int .u8 0, .int .u8 0, .int .u8 0, .int .u8 0, .int .u8 0, .int .u8 0, .int .u8 0, .int .u8 0])).run Tryz.prog w2 = .ok () (w2.setRow w.heap.size (a16 zero16)) := run_storeA (m := zero16) R0.out (by decide) (by decide)
      go_wp2_with fail
      refine bodyPost_ret (results_16 Tryz.results219 _ _ rfl (ArrAt.setRow (m := zero16) R0.out) (by decide)) rfl ⟨by rw [HF.out]; rfl, below_setRow HB.out (Nat.le_refl _) _⟩
    | some y =>
      have hy1 := hy
      rw [hy] at cy
      have Cy := Lib.hid cy
      have h1 : readG (Lib.cut s.data.toList [58, 58]).1 = some x := by rw [← HH.out]; exact hx1
      have h2 : readG (Lib.cut s.data.toList [58, 58]).2.1 = some y := by rw [← HT.out]; exact hy1
      have hx9 := readG_lt h1
      have hy9 := readG_lt h2
      have hyn : f = false → y = [] := fun e => by
        have := cut_no (l := s.data.toList) (by rw [Hf.out]; exact e)
        rw [this] at h2
        exact read_nil h2
      have XB := Lib.hid (show x.length ≤ 1048577 from Nat.le_trans (readG_len hx1) (by rw [size_list]; omega))
      have YB := Lib.hid (show y.length ≤ 1048577 from Nat.le_trans (readG_len hy1) (by rw [size_list]; omega))
      have HYn := Lib.hid hyn
      have hbad := fun e => p6_bad h1 h2 Hf.out (f := f) e
      have hgood := fun e => p6_good h1 h2 Hf.out (f := f) hyn e
      obtain ⟨bb, hbb⟩ : ∃ b, badG f x y = b := ⟨_, rfl⟩
      rw [hbb] at hbad hgood
      have HBb := Lib.hid hbb
      have HBad := Lib.hid hbad
      have HGood := Lib.hid hgood
      have HX9 := Lib.hid hx9
      have HY9 := Lib.hid hy9
      clear cx cy hx hy hx1 hy1 h1 h2 hyn hbad hgood hbb hx9 hy9
      go_wp2_with fail
      refine Cx.out.mono ?_
      rintro e w1 ⟨⟨vx, rfl, hOx⟩, hB1⟩
      have hOx := own_mono hOx HW2.out
      obtain ⟨Ax, cx, rfl, _⟩ := OwnG.rs enc16_ok (show OwnG 1 enc16 169 w1 (w.heap.size + 1) vx x from hOx)
      have HB1 := Lib.hid hB1
      have HOx := Lib.hid (show OwnG 1 enc16 169 w1 (w.heap.size + 1) (.slice Ax x.length cx) x from hOx)
      clear hB1 hOx
      go_wp2_with fail
      refine (Cy.out _ HB1.out).mono ?_
      rintro e w2 ⟨⟨vy, rfl, hOy⟩, hB2⟩
      have hOx2 : OwnG 1 enc16 169 w2 (w.heap.size + 1) (.slice Ax x.length cx) x := own_below HOx.out hB2
      have hOy := own_mono hOy (Nat.le_trans HW2.out HB1.out.size)
      obtain ⟨Ay, cy, rfl, _⟩ := OwnG.rs enc16_ok (show OwnG 1 enc16 169 w2 (w.heap.size + 1) vy y from hOy)
      have hB2 := HB1.out.trans (hB2.mono HB1.out.size)
      have HOx2 := Lib.hid hOx2
      have HOy2 := Lib.hid (show OwnG 1 enc16 169 w2 (w.heap.size + 1) (.slice Ay y.length cy) y from hOy)
      have R0 := Lib.hid (Hr0.out.later hB2)
      have HB := Lib.hid (HB0.out.trans (hB2.mono HB0.out.size))
      clear hB2 hOx2 hOy
      have xb : x.length ≤ 1048577 := XB.out
      have yb : y.length ≤ 1048577 := YB.out
      obtain ⟨lack, hlack⟩ : ∃ z : Int, 8 - (x.length : Int) - (y.length : Int) = z := ⟨_, rfl⟩
      have HLk := Lib.hid hlack
      have lk1 : -3000000 ≤ lack := by omega
      have lk2 : lack ≤ 8 := by omega
      go_upto_region 5 with fail
      go_cut [55] (fun s55 W => s55 = .bool bb ∧ w2 = W)
      case first =>
        have Hyn := HYn
        cases f with
        | true =>
          by_cases h7 : 7 < x.length + y.length
          · by_cases h8 : x.length + y.length = 8
            · have d1 : ¬ lack < 0 := by omega
              have d2 : (lack == 0) = true := beq_iff_eq.2 (by omega)
              have hb : bb = true := by rw [← HBb.out]; simp [badG]; omega
              subst hb
              clear h7 h8
              go_wp2_with fail
              go_meet
              exact ⟨rfl, rfl⟩
            · have d1 : lack < 0 := by omega
              have hb : bb = true := by rw [← HBb.out]; simp [badG]; omega
              subst hb
              clear h7 h8
              go_wp2_with fail
              go_meet
              exact ⟨rfl, rfl⟩
          · have d1 : ¬ lack < 0 := by omega
            have d2 : (lack == 0) = false := beq_eq_false_iff_ne.2 (by omega)
            have hb : bb = false := by rw [← HBb.out]; simp [badG]; omega
            subst hb
            clear h7
            go_wp2_with fail
            go_meet
            exact ⟨rfl, rfl⟩
        | false =>
          have hy0 : y.length = 0 := by rw [HYn.out rfl]; rfl
          by_cases h8 : x.length = 8
          · have d1 : ¬ lack < 0 := by omega
            have d2 : (lack == 0) = true := beq_iff_eq.2 (by omega)
            have hb : bb = false := by rw [← HBb.out]; simp [badG, h8]
            subst hb
            clear hy0 h8
            go_wp2_with fail
            go_meet
            exact ⟨rfl, rfl⟩
          · by_cases h9 : 8 < x.length
            · have d1 : lack < 0 := by omega
              have hb : bb = true := by rw [← HBb.out]; simp [badG, h8]
              subst hb
              clear hy0 h8 h9
              go_wp2_with fail
              go_meet
              exact ⟨rfl, rfl⟩
            · have d1 : ¬ lack < 0 := by omega
              have d2 : (lack == 0) = false := beq_eq_false_iff_ne.2 (by omega)
              have hb : bb = true := by rw [← HBb.out]; simp [badG, h8]
              subst hb
              clear hy0 h8 h9
              go_wp2_with fail
              go_meet
              exact ⟨rfl, rfl⟩
      case rest =>
        obtain ⟨rfl, rfl⟩ := hcut
        clear hlack
        cases bb with
        | true =>
          have hn := HBad.out rfl
          have HF := Lib.hid (HR.out.symm.trans hn)
          clear hn
          have st : (storeA (.pointer (some ⟨w.heap.size, 0, none⟩)) (.agg #[.int .u8 0, .int .u8 0, .int .u8 0, .int .u8 0, .int .u8 0, .int .u8 0, .int .u8 0, .int .u8 0, .int .u8 0, .int .u8 0, .int .u8 0, .int .u8 0, .int .u8 0, .int .u8 0, .int .u8 0, .int .u8 0])).run Tryz.prog w2 = .ok () (w2.setRow w.heap.size (a16 zero16)) := run_storeA (m := zero16) R0.out (by decide) (by decide)
          go_wp2_with fail
          refine bodyPost_ret (results_16 Tryz.results219 _ _ rfl (ArrAt.setRow (m := zero16) R0.out) (by decide)) rfl ⟨by rw [HF.out]; rfl, below_setRow HB.out (Nat.le_refl _) _⟩
        | false =>
          obtain ⟨hn, h8⟩ := HGood.out rfl
          have HF := Lib.hid (HR.out.symm.trans hn)
          clear hn
          have hr1 : ArrAt T16 (w2.alloc (.cells (zero16.map c8).toArray T16)) w2.heap.size zero16 := ArrAt.new T16 w2 zero16
          rw [show zero16 = arrW [] x (List.replicate (16 - 2 * x.length) 0) 0 from (arr_0 (by omega)).symm] at hr1
          have R1' := Lib.hid (show ArrAt T16 (w2.alloc (.cells (zero16.map c8).toArray T16)) w2.heap.size (arrW [] x (List.replicate (16 - 2 * x.length) 0) 0) from by
            have h := ArrAt.new T16 w2 zero16
            rw [show zero16 = arrW [] x (List.replicate (16 - 2 * x.length) 0) 0 from (arr_0 (by omega)).symm] at h ⊢
            exact h)
          have HLT := Lib.hid R0.out.lt
          have R0a := Lib.hid (R0.out.old (.cells (zero16.map c8).toArray T16))
          have HOxa := Lib.hid (own_later (W := w2.alloc (.cells (zero16.map c8).toArray T16)) HOx2.out fun q e => Below.heap_alloc _ _ _ (own_lt HOx2.out e).2)
          have HOya := Lib.hid (own_later (W := w2.alloc (.cells (zero16.map c8).toArray T16)) HOy2.out fun q e => Below.heap_alloc _ _ _ (own_lt HOy2.out e).2)
          have HBa := Lib.hid (HB.out.alloc HB.out.size (.cells (zero16.map c8).toArray T16))
          have x8 : x.length + y.length ≤ 8 := h8
          clear hr1
          go_wp2_with fail
          go_loopg [13, 14, 59] x.length (fun g s13 s14 s59 wr => ∃ k : Nat, k + g = x.length ∧ s59 = .int .i64 k ∧ ArrAt T16 wr w.heap.size zero16 ∧ ArrAt T16 wr (w2.heap.size) (arrW [] x (List.replicate (16 - 2 * x.length) 0) k) ∧ OwnG 1 enc16 169 wr (w.heap.size + 1) (.slice Ax x.length cx) x ∧ OwnG 1 enc16 169 wr (w.heap.size + 1) (.slice Ay y.length cy) y ∧ Below w.heap.size w wr)
          case atStart => exact ⟨0, by omega, rfl, R0a.out, R1'.out, HOxa.out, HOya.out, HBa.out⟩
          case round =>
            obtain ⟨k, hk, rfl, h0, h1, hOx, hOy, hB⟩ := hrel
            have k0 : (0 : Int) ≤ (k : Int) := by omega
            have R0 := Lib.hid h0
            have R1 := Lib.hid h1
            have HOx := Lib.hid hOx
            have HOy := Lib.hid hOy
            have HB := Lib.hid hB
            clear h0 h1 hOx hOy hB
            cases gk with
            | succ g =>
              have k1 : (k : Int) < (x.length : Int) := by omega
              have hkl : k < x.length := by omega
              obtain ⟨gb, gc, hsl, -, hge, -⟩ := HOx2.out.form (by omega)
              obtain ⟨bb, o, hAe, -⟩ := own_rs enc16_ok HOx.out (by omega)
              subst hAe
              have hbne : bb ≠ w2.heap.size := by
                injection hsl with e1 e2 e3
                injection e1 with e1
                injection e1 with e1 e4 e5
                omega
              clear hsl hge
              obtain ⟨u, hu⟩ : ∃ u, x[k]? = some u := ⟨_, List.getElem?_eq_getElem hkl⟩
              have hcell := (own_rs enc16_ok HOx.out).cell enc16_ok hu (j := 0) rfl
              simp only [Nat.mul_one, Nat.add_zero] at hcell
              have hu9 : u < 65536 := HX9.out u (List.mem_of_getElem? hu)
              obtain ⟨p, hp⟩ : ∃ p, 2 * k = p := ⟨_, rfl⟩
              have p9 : p + 1 ≤ 15 := by omega
              have e0 : 2 * (k : Int) = (p : Int) := by omega
              have t1 : ((p : Int) + 1).toNat = p + 1 := by omega
              have p0 : (0 : Int) ≤ (p : Int) := by omega
              have p1 : (p : Int) < 15 := by omega
              obtain ⟨c0, c1, z0, z1⟩ := R1.out.cells2 (p := p) hkl (by simpa using hp)
              have hput := R1.out.put2' (p := p) hkl hu (by simpa using hp)
              obtain ⟨hi, hhi⟩ : ∃ x, u / 256 = x := ⟨_, rfl⟩
              obtain ⟨lo, hlo⟩ : ∃ x, u % 256 = x := ⟨_, rfl⟩
              rw [hhi, hlo] at hput
              have Hput := Lib.hid hput
              have q1 : (u : Int) / 256 = (hi : Int) := by omega
              have q2 : (u : Int) % 256 = (lo : Int) := by omega
              have hi9 : (hi : Int) ≤ 255 := by omega
              have hi0 : (0 : Int) ≤ (hi : Int) := by omega
              have lo9 : (lo : Int) ≤ 255 := by omega
              have lo0 : (0 : Int) ≤ (lo : Int) := by omega
              have u0 : (0 : Int) ≤ (u : Int) := by omega
              have u9 : (u : Int) ≤ 65535 := by omega
              have R0s := Lib.hid ((R0.out.other (c := w2.heap.size) (i := p) (.int .u8 (hi : Int)) (by have := HLT.out; omega)).other (c := w2.heap.size) (i := p + 1) (.int .u8 (lo : Int)) (by have := HLT.out; omega))
              have HBs := Lib.hid ((HB.out.setCell (p := ⟨w2.heap.size, p, none⟩) (Nat.le_of_lt HLT.out) (.int .u8 (hi : Int))).setCell (p := ⟨w2.heap.size, p + 1, none⟩) (Nat.le_of_lt HLT.out) (.int .u8 (lo : Int)))
              have oth : ∀ q, q < w2.heap.size → ((wr.setCell ⟨w2.heap.size, p, none⟩ (.int .u8 (hi : Int))).setCell ⟨w2.heap.size, p + 1, none⟩ (.int .u8 (lo : Int))).heap[q]? = wr.heap[q]? := fun q hq => (heap_setCell_other _ ⟨w2.heap.size, p + 1, none⟩ q _ (by show q ≠ w2.heap.size; omega)).trans (heap_setCell_other _ ⟨w2.heap.size, p, none⟩ q _ (by show q ≠ w2.heap.size; omega))
              have Oth := Lib.hid oth
              clear hput hu hp hhi hlo hkl hu9 oth
              go_wp2_with fail
              go_roundg g
              case measure => omega
              case rel => exact ⟨k + 1, by omega, by go_num, R0s.out, Hput.out, own_later HOx.out fun q e => Oth.out q (own_lt HOx2.out e).2, own_later HOy.out fun q e => Oth.out q (own_lt HOy2.out e).2, HBs.out⟩
            | zero =>
              have k1 : ¬ (k : Int) < (x.length : Int) := by omega
              have hkx : k = x.length := by omega
              have hr1 := R1.out
              rw [hkx, arr_mid x8] at hr1
              have R1' := Lib.hid hr1
              clear hr1 hkx
              go_wp2_with fail
              go_loopg [15, 16, 17, 79] y.length (fun g s15 s16 s17 s79 wr => ∃ k : Nat, k + g = y.length ∧ s79 = .int .i64 k ∧ ArrAt T16 wr w.heap.size zero16 ∧ ArrAt T16 wr (w2.heap.size) (arrW (bytesG x ++ List.replicate (16 - 2 * x.length - 2 * y.length) 0) y [] k) ∧ OwnG 1 enc16 169 wr (w.heap.size + 1) (.slice Ay y.length cy) y ∧ Below w.heap.size w wr)
              case atStart => exact ⟨0, by omega, rfl, R0.out, R1'.out, HOy.out, HB.out⟩
              case round =>
                obtain ⟨k, hk, rfl, h0, h1, hOy, hB⟩ := hrel
                have k0 : (0 : Int) ≤ (k : Int) := by omega
                have R0 := Lib.hid h0
                have R1 := Lib.hid h1
                have HOy := Lib.hid hOy
                have HB := Lib.hid hB
                clear h0 h1 hOy hB
                cases gk with
                | succ g =>
                  have k1 : (k : Int) < (y.length : Int) := by omega
                  have hkl : k < y.length := by omega
                  obtain ⟨gb, gc, hsl, -, hge, -⟩ := HOy2.out.form (by omega)
                  obtain ⟨bb, o, hAe, -⟩ := own_rs enc16_ok HOy.out (by omega)
                  subst hAe
                  have hbne : bb ≠ w2.heap.size := by
                    injection hsl with e1 e2 e3
                    injection e1 with e1
                    injection e1 with e1 e4 e5
                    omega
                  clear hsl hge
                  obtain ⟨u, hu⟩ : ∃ u, y[k]? = some u := ⟨_, List.getElem?_eq_getElem hkl⟩
                  have hcell := (own_rs enc16_ok HOy.out).cell enc16_ok hu (j := 0) rfl
                  simp only [Nat.mul_one, Nat.add_zero] at hcell
                  have hu9 : u < 65536 := HY9.out u (List.mem_of_getElem? hu)
                  obtain ⟨p, hp⟩ : ∃ p, 16 - 2 * y.length + 2 * k = p := ⟨_, rfl⟩
                  have p9 : p + 1 ≤ 15 := by omega
                  obtain ⟨q0, hq0⟩ : ∃ q, 8 - y.length + k = q := ⟨_, rfl⟩
                  have e00 : 8 - (y.length : Int) + (k : Int) = (q0 : Int) := by omega
                  have e0 : 2 * (q0 : Int) = (p : Int) := by omega
                  have q00 : (0 : Int) ≤ (q0 : Int) := by omega
                  have q08 : (q0 : Int) ≤ 8 := by omega
                  clear hq0
                  have t1 : ((p : Int) + 1).toNat = p + 1 := by omega
                  have p0 : (0 : Int) ≤ (p : Int) := by omega
                  have p1 : (p : Int) < 15 := by omega
                  obtain ⟨c0, c1, z0, z1⟩ := R1.out.cells2 (p := p) hkl (by have := mid_len x8; omega)
                  have hput := R1.out.put2' (p := p) hkl hu (by have := mid_len x8; omega)
                  obtain ⟨hi, hhi⟩ : ∃ x, u / 256 = x := ⟨_, rfl⟩
                  obtain ⟨lo, hlo⟩ : ∃ x, u % 256 = x := ⟨_, rfl⟩
                  rw [hhi, hlo] at hput
                  have Hput := Lib.hid hput
                  have q1 : (u : Int) / 256 = (hi : Int) := by omega
                  have q2 : (u : Int) % 256 = (lo : Int) := by omega
                  have hi9 : (hi : Int) ≤ 255 := by omega
                  have hi0 : (0 : Int) ≤ (hi : Int) := by omega
                  have lo9 : (lo : Int) ≤ 255 := by omega
                  have lo0 : (0 : Int) ≤ (lo : Int) := by omega
                  have u0 : (0 : Int) ≤ (u : Int) := by omega
                  have u9 : (u : Int) ≤ 65535 := by omega
                  have R0s := Lib.hid ((R0.out.other (c := w2.heap.size) (i := p) (.int .u8 (hi : Int)) (by have := HLT.out; omega)).other (c := w2.heap.size) (i := p + 1) (.int .u8 (lo : Int)) (by have := HLT.out; omega))
                  have HBs := Lib.hid ((HB.out.setCell (p := ⟨w2.heap.size, p, none⟩) (Nat.le_of_lt HLT.out) (.int .u8 (hi : Int))).setCell (p := ⟨w2.heap.size, p + 1, none⟩) (Nat.le_of_lt HLT.out) (.int .u8 (lo : Int)))
                  have oth : ∀ q, q < w2.heap.size → ((wr.setCell ⟨w2.heap.size, p, none⟩ (.int .u8 (hi : Int))).setCell ⟨w2.heap.size, p + 1, none⟩ (.int .u8 (lo : Int))).heap[q]? = wr.heap[q]? := fun q hq => (heap_setCell_other _ ⟨w2.heap.size, p + 1, none⟩ q _ (by show q ≠ w2.heap.size; omega)).trans (heap_setCell_other _ ⟨w2.heap.size, p, none⟩ q _ (by show q ≠ w2.heap.size; omega))
                  have Oth := Lib.hid oth
                  clear hput hu hp hhi hlo hkl hu9 oth
                  go_wp2_with fail
                  go_roundg g
                  case measure => omega
                  case rel => exact ⟨k + 1, by omega, by go_num, R0s.out, Hput.out, own_later HOy.out fun q e => Oth.out q (own_lt HOy2.out e).2, HBs.out⟩
                | zero =>
                  have k1 : ¬ (k : Int) < (y.length : Int) := by omega
                  have hky : k = y.length := by omega
                  have hr1 := R1.out
                  rw [hky, arr_end x8] at hr1
                  obtain ⟨gs, hgs⟩ : ∃ gs, x ++ List.replicate (8 - x.length - y.length) 0 ++ y = gs := ⟨_, rfl⟩
                  rw [hgs] at hr1
                  have hf2 := HF.out
                  rw [hgs] at hf2
                  have HF2 := Lib.hid hf2
                  have hl16 : (bytesG gs).length = 16 := by
                    rw [bytesG_len, ← hgs, List.length_append, List.length_append, List.length_replicate]
                    omega
                  have ld := run_loadA hr1 hl16
                  have st := run_storeA (m := bytesG gs) R0.out (by decide) hl16
                  have R0' := Lib.hid (ArrAt.setRow (m := bytesG gs) R0.out)
                  have HL := Lib.hid hl16
                  clear hr1 hky hgs hf2 hl16
                  go_wp2_with fail
                  refine bodyPost_ret (results_16 Tryz.results219 _ _ rfl R0'.out HL.out) rfl ⟨by rw [HF2.out]; rfl, below_setRow HB.out (Nat.le_refl _) _⟩
end Go.Proofs.YtffkaphbgfdpaaaGreatDoor
end

section
/- Plain laws: an address's text. -/
namespace Go.Proofs.YtffkaphbgfdpaaaGreatDoor
set_option linter.unusedVariables false
set_option linter.unusedSimpArgs false

/-- How many noughts stand from a place on. -/
def rowZ (zs : List Bool) (k : Nat) : Nat := ((zs.drop k).takeWhile id).length
/-- The document's longest row: one look more. -/
def stepR (zs : List Bool) (k : Nat) (a : Int × Nat) : Int × Nat := if a.2 < rowZ zs k then ((k : Int), rowZ zs k) else a
def gapR (zs : List Bool) : Nat → Int × Nat
  | 0 => (-1, 1)
  | k + 1 => stepR zs k (gapR zs k)
/-- The program's: the best row, the row now. -/
structure Nt where
  ba : Nat
  bn : Nat
  na : Nat
  nn : Nat
  deriving DecidableEq
def stepN (k : Nat) (z : Bool) (a : Nt) : Nt :=
  if z then
    let at_ := if a.na = 0 ∧ a.nn = 0 then k else a.na
    if a.bn < a.nn + 1 then ⟨at_, a.nn + 1, at_, a.nn + 1⟩ else ⟨a.ba, a.bn, at_, a.nn + 1⟩
  else ⟨a.ba, a.bn, 0, 0⟩
def gapN (zs : List Bool) : Nat → Nt
  | 0 => ⟨0, 0, 0, 0⟩
  | k + 1 => stepN k (zs.getD k false) (gapN zs k)
/-- What noughts answers. -/
def gapP (zs : List Bool) : Nat × Nat := if (gapN zs 8).bn < 2 then (0, 0) else ((gapN zs 8).ba, (gapN zs 8).bn)
def gapOk (zs : List Bool) : Bool := (decide ((gapR zs 8).1 = -1) && decide ((gapR zs 8).2 = 1) && decide (gapP zs = (0, 0))) || (decide (0 ≤ (gapR zs 8).1) && decide (2 ≤ (gapR zs 8).2) && decide ((gapR zs 8).1 + (gapR zs 8).2 ≤ 8) && decide (gapP zs = ((gapR zs 8).1.toNat, (gapR zs 8).2)))
theorem gap_all : ∀ b0 b1 b2 b3 b4 b5 b6 b7 : Bool, gapOk [b0, b1, b2, b3, b4, b5, b6, b7] = true := by decide +kernel
theorem gap_same {zs : List Bool} (h : zs.length = 8) : (gapR zs 8 = (-1, 1) ∧ gapP zs = (0, 0)) ∨ ∃ f l : Nat, gapR zs 8 = ((f : Int), l) ∧ gapP zs = (f, l) ∧ 2 ≤ l ∧ f + l ≤ 8 := by
  match zs, h with
  | [b0, b1, b2, b3, b4, b5, b6, b7], _ =>
    have h := gap_all b0 b1 b2 b3 b4 b5 b6 b7
    generalize [b0, b1, b2, b3, b4, b5, b6, b7] = zs at h
    unfold gapOk at h
    simp only [Bool.or_eq_true, Bool.and_eq_true, decide_eq_true_eq] at h
    rcases h with ⟨⟨h1, h2⟩, h3⟩ | ⟨⟨⟨h1, h2⟩, h3⟩, h4⟩
    · exact .inl ⟨Prod.ext h1 h2, h3⟩
    · refine .inr ⟨(gapR zs 8).1.toNat, (gapR zs 8).2, Prod.ext ?_ rfl, h4, h2, by omega⟩
      show (gapR zs 8).1 = ((gapR zs 8).1.toNat : Int)
      omega
/-- An address's flags: which groups are noughts. -/
def flags (gs : List Nat) : List Bool := gs.map fun g => g == 0
/-- The text, a row of l groups from f on left out (of none: l = 0). -/
def textG (gs : List Nat) (f l : Nat) : List UInt8 := if l = 0 then joinL 58 (gs.map hexL) else joinL 58 ((gs.take f).map hexL) ++ 58 :: 58 :: joinL 58 ((gs.drop (f + l)).map hexL)
def print6L (gs : List Nat) : List UInt8 := textG gs (gapP (flags gs)).1 (gapP (flags gs)).2
/-- The document's way through the groups. -/
def txR (gs : List Nat) (f : Int) (l : Nat) : Nat → Nat → List UInt8
  | 0, _ => []
  | n + 1, i => if 8 ≤ i then [] else if (i : Int) = f then 58 :: 58 :: txR gs f l n (i + l) else (if 0 < i ∧ (i : Int) ≠ f + l then [58] else []) ++ (hexL (gs.getD i 0) ++ txR gs f l n (i + 1))
/-- The program's: a group's piece. -/
def pieceP (gs : List Nat) (f l : Nat) (i : Nat) : List UInt8 := if l ≠ 0 ∧ f ≤ i ∧ i < f + l then (if i = f then [58, 58] else []) else (if 0 < i ∧ (l = 0 ∨ i ≠ f + l) then [58] else []) ++ hexL (gs.getD i 0)
def txP (gs : List Nat) (f l : Nat) : Nat → List UInt8
  | 0 => []
  | k + 1 => txP gs f l k ++ pieceP gs f l k
set_option maxRecDepth 100000 in
theorem txR_none (gs : List Nat) (h : gs.length = 8) : txR gs (-1) 1 9 0 = textG gs 0 0 := by
  match gs, h with
  | [g0, g1, g2, g3, g4, g5, g6, g7], _ => simp [txR, textG, joinL]
set_option maxRecDepth 100000 in
theorem txP_none (gs : List Nat) (h : gs.length = 8) : txP gs 0 0 8 = textG gs 0 0 := by
  match gs, h with
  | [g0, g1, g2, g3, g4, g5, g6, g7], _ => simp [txP, pieceP, textG, joinL]
set_option maxRecDepth 100000 in
set_option maxHeartbeats 4000000 in
theorem txR_gap0 (gs : List Nat) (l : Nat) (h : gs.length = 8) (hl : 2 ≤ l) (hf : 0 + l ≤ 8) : txR gs 0 l 9 0 = textG gs 0 l := by
  match gs, h with
  | [g0, g1, g2, g3, g4, g5, g6, g7], _ =>
    have hc : l = 2 ∨ l = 3 ∨ l = 4 ∨ l = 5 ∨ l = 6 ∨ l = 7 ∨ l = 8 := by omega
    rcases hc with rfl | rfl | rfl | rfl | rfl | rfl | rfl <;> simp [txR, textG, joinL]
set_option maxRecDepth 100000 in
set_option maxHeartbeats 4000000 in
theorem txR_gap1 (gs : List Nat) (l : Nat) (h : gs.length = 8) (hl : 2 ≤ l) (hf : 1 + l ≤ 8) : txR gs 1 l 9 0 = textG gs 1 l := by
  match gs, h with
  | [g0, g1, g2, g3, g4, g5, g6, g7], _ =>
    have hc : l = 2 ∨ l = 3 ∨ l = 4 ∨ l = 5 ∨ l = 6 ∨ l = 7 := by omega
    rcases hc with rfl | rfl | rfl | rfl | rfl | rfl <;> simp [txR, textG, joinL]
set_option maxRecDepth 100000 in
set_option maxHeartbeats 4000000 in
theorem txR_gap2 (gs : List Nat) (l : Nat) (h : gs.length = 8) (hl : 2 ≤ l) (hf : 2 + l ≤ 8) : txR gs 2 l 9 0 = textG gs 2 l := by
  match gs, h with
  | [g0, g1, g2, g3, g4, g5, g6, g7], _ =>
    have hc : l = 2 ∨ l = 3 ∨ l = 4 ∨ l = 5 ∨ l = 6 := by omega
    rcases hc with rfl | rfl | rfl | rfl | rfl <;> simp [txR, textG, joinL]
set_option maxRecDepth 100000 in
set_option maxHeartbeats 4000000 in
theorem txR_gap3 (gs : List Nat) (l : Nat) (h : gs.length = 8) (hl : 2 ≤ l) (hf : 3 + l ≤ 8) : txR gs 3 l 9 0 = textG gs 3 l := by
  match gs, h with
  | [g0, g1, g2, g3, g4, g5, g6, g7], _ =>
    have hc : l = 2 ∨ l = 3 ∨ l = 4 ∨ l = 5 := by omega
    rcases hc with rfl | rfl | rfl | rfl <;> simp [txR, textG, joinL]
set_option maxRecDepth 100000 in
set_option maxHeartbeats 4000000 in
theorem txR_gap4 (gs : List Nat) (l : Nat) (h : gs.length = 8) (hl : 2 ≤ l) (hf : 4 + l ≤ 8) : txR gs 4 l 9 0 = textG gs 4 l := by
  match gs, h with
  | [g0, g1, g2, g3, g4, g5, g6, g7], _ =>
    have hc : l = 2 ∨ l = 3 ∨ l = 4 := by omega
    rcases hc with rfl | rfl | rfl <;> simp [txR, textG, joinL]
set_option maxRecDepth 100000 in
set_option maxHeartbeats 4000000 in
theorem txR_gap5 (gs : List Nat) (l : Nat) (h : gs.length = 8) (hl : 2 ≤ l) (hf : 5 + l ≤ 8) : txR gs 5 l 9 0 = textG gs 5 l := by
  match gs, h with
  | [g0, g1, g2, g3, g4, g5, g6, g7], _ =>
    have hc : l = 2 ∨ l = 3 := by omega
    rcases hc with rfl | rfl <;> simp [txR, textG, joinL]
set_option maxRecDepth 100000 in
set_option maxHeartbeats 4000000 in
theorem txR_gap6 (gs : List Nat) (l : Nat) (h : gs.length = 8) (hl : 2 ≤ l) (hf : 6 + l ≤ 8) : txR gs 6 l 9 0 = textG gs 6 l := by
  match gs, h with
  | [g0, g1, g2, g3, g4, g5, g6, g7], _ =>
    have hc : l = 2 := by omega
    rcases hc with rfl <;> simp [txR, textG, joinL]
theorem txR_gap (gs : List Nat) (f l : Nat) (h : gs.length = 8) (hl : 2 ≤ l) (hf : f + l ≤ 8) : txR gs (f : Int) l 9 0 = textG gs f l := by
  match f, hf with
  | 0, hf => exact txR_gap0 gs l h hl hf
  | 1, hf => exact txR_gap1 gs l h hl hf
  | 2, hf => exact txR_gap2 gs l h hl hf
  | 3, hf => exact txR_gap3 gs l h hl hf
  | 4, hf => exact txR_gap4 gs l h hl hf
  | 5, hf => exact txR_gap5 gs l h hl hf
  | 6, hf => exact txR_gap6 gs l h hl hf
  | f + 7, hf => omega
set_option maxRecDepth 100000 in
set_option maxHeartbeats 4000000 in
theorem txP_gap0 (gs : List Nat) (l : Nat) (h : gs.length = 8) (hl : 2 ≤ l) (hf : 0 + l ≤ 8) : txP gs 0 l 8 = textG gs 0 l := by
  match gs, h with
  | [g0, g1, g2, g3, g4, g5, g6, g7], _ =>
    have hc : l = 2 ∨ l = 3 ∨ l = 4 ∨ l = 5 ∨ l = 6 ∨ l = 7 ∨ l = 8 := by omega
    rcases hc with rfl | rfl | rfl | rfl | rfl | rfl | rfl <;> simp [txP, pieceP, textG, joinL]
set_option maxRecDepth 100000 in
set_option maxHeartbeats 4000000 in
theorem txP_gap1 (gs : List Nat) (l : Nat) (h : gs.length = 8) (hl : 2 ≤ l) (hf : 1 + l ≤ 8) : txP gs 1 l 8 = textG gs 1 l := by
  match gs, h with
  | [g0, g1, g2, g3, g4, g5, g6, g7], _ =>
    have hc : l = 2 ∨ l = 3 ∨ l = 4 ∨ l = 5 ∨ l = 6 ∨ l = 7 := by omega
    rcases hc with rfl | rfl | rfl | rfl | rfl | rfl <;> simp [txP, pieceP, textG, joinL]
set_option maxRecDepth 100000 in
set_option maxHeartbeats 4000000 in
theorem txP_gap2 (gs : List Nat) (l : Nat) (h : gs.length = 8) (hl : 2 ≤ l) (hf : 2 + l ≤ 8) : txP gs 2 l 8 = textG gs 2 l := by
  match gs, h with
  | [g0, g1, g2, g3, g4, g5, g6, g7], _ =>
    have hc : l = 2 ∨ l = 3 ∨ l = 4 ∨ l = 5 ∨ l = 6 := by omega
    rcases hc with rfl | rfl | rfl | rfl | rfl <;> simp [txP, pieceP, textG, joinL]
set_option maxRecDepth 100000 in
set_option maxHeartbeats 4000000 in
theorem txP_gap3 (gs : List Nat) (l : Nat) (h : gs.length = 8) (hl : 2 ≤ l) (hf : 3 + l ≤ 8) : txP gs 3 l 8 = textG gs 3 l := by
  match gs, h with
  | [g0, g1, g2, g3, g4, g5, g6, g7], _ =>
    have hc : l = 2 ∨ l = 3 ∨ l = 4 ∨ l = 5 := by omega
    rcases hc with rfl | rfl | rfl | rfl <;> simp [txP, pieceP, textG, joinL]
set_option maxRecDepth 100000 in
set_option maxHeartbeats 4000000 in
theorem txP_gap4 (gs : List Nat) (l : Nat) (h : gs.length = 8) (hl : 2 ≤ l) (hf : 4 + l ≤ 8) : txP gs 4 l 8 = textG gs 4 l := by
  match gs, h with
  | [g0, g1, g2, g3, g4, g5, g6, g7], _ =>
    have hc : l = 2 ∨ l = 3 ∨ l = 4 := by omega
    rcases hc with rfl | rfl | rfl <;> simp [txP, pieceP, textG, joinL]
set_option maxRecDepth 100000 in
set_option maxHeartbeats 4000000 in
theorem txP_gap5 (gs : List Nat) (l : Nat) (h : gs.length = 8) (hl : 2 ≤ l) (hf : 5 + l ≤ 8) : txP gs 5 l 8 = textG gs 5 l := by
  match gs, h with
  | [g0, g1, g2, g3, g4, g5, g6, g7], _ =>
    have hc : l = 2 ∨ l = 3 := by omega
    rcases hc with rfl | rfl <;> simp [txP, pieceP, textG, joinL]
set_option maxRecDepth 100000 in
set_option maxHeartbeats 4000000 in
theorem txP_gap6 (gs : List Nat) (l : Nat) (h : gs.length = 8) (hl : 2 ≤ l) (hf : 6 + l ≤ 8) : txP gs 6 l 8 = textG gs 6 l := by
  match gs, h with
  | [g0, g1, g2, g3, g4, g5, g6, g7], _ =>
    have hc : l = 2 := by omega
    rcases hc with rfl <;> simp [txP, pieceP, textG, joinL]
theorem txP_gap (gs : List Nat) (f l : Nat) (h : gs.length = 8) (hl : 2 ≤ l) (hf : f + l ≤ 8) : txP gs f l 8 = textG gs f l := by
  match f, hf with
  | 0, hf => exact txP_gap0 gs l h hl hf
  | 1, hf => exact txP_gap1 gs l h hl hf
  | 2, hf => exact txP_gap2 gs l h hl hf
  | 3, hf => exact txP_gap3 gs l h hl hf
  | 4, hf => exact txP_gap4 gs l h hl hf
  | 5, hf => exact txP_gap5 gs l h hl hf
  | 6, hf => exact txP_gap6 gs l h hl hf
  | f + 7, hf => omega
end Go.Proofs.YtffkaphbgfdpaaaGreatDoor
end

section
/- The document's Hex of two bytes; a group's short text. -/
namespace Go.Proofs.YtffkaphbgfdpaaaGreatDoor
open Go.RowKit Go.Shelf Go.Deep
set_option linter.unusedVariables false
set_option linter.unusedSimpArgs false

abbrev digs16 : ByteArray := ⟨#[48, 49, 50, 51, 52, 53, 54, 55, 56, 57, 97, 98, 99, 100, 101, 102]⟩
set_option maxRecDepth 10000 in
theorem ix16 {d : Nat} (h : d < 16) (W : World) : (Instr.index 9 (.string digs16) (.int .u8 (d : Int))).run Tryz.prog W = .ok (.int .u8 ((hch d).toNat : Int)) W := by
  have : d = 0 ∨ d = 1 ∨ d = 2 ∨ d = 3 ∨ d = 4 ∨ d = 5 ∨ d = 6 ∨ d = 7 ∨ d = 8 ∨ d = 9 ∨ d = 10 ∨ d = 11 ∨ d = 12 ∨ d = 13 ∨ d = 14 ∨ d = 15 := by omega
  rcases this with rfl | rfl | rfl | rfl | rfl | rfl | rfl | rfl | rfl | rfl | rfl | rfl | rfl | rfl | rfl | rfl <;> exact rfl
/-- Two digits a byte. -/
def hexs (l : List Nat) : List UInt8 := l.flatMap fun x => [hch (x / 16), hch (x % 16)]
theorem hexs_snoc (l : List Nat) (x : Nat) : hexs (l ++ [x]) = hexs l ++ [hch (x / 16), hch (x % 16)] := by
  unfold hexs
  rw [List.flatMap_append]
  simp
theorem hexs_len (l : List Nat) : (hexs l).length = 2 * l.length := by
  induction l with
  | nil => rfl
  | cons x l ih =>
    show ([hch (x / 16), hch (x % 16)] ++ hexs l).length = _
    rw [List.length_append, ih]
    simp
    omega
set_option maxRecDepth 100000 in
set_option maxHeartbeats 3200000 in
theorem rhex_any (g c : Nat) (L : List Nat) (w : World) (hL : ∀ x ∈ L, x < 256) (hl : L.length ≤ 1000) (hc : ∀ (k x : Nat), L[k]? = some x → w.cell? ⟨g, k, none⟩ = some (.int .u8 (x : Int))) : Calls Tryz.prog 149 #[.slice (some ⟨g, 0, none⟩) L.length c] w fun e w' => e = .returned (.string (bs (hexs L))) ∧ Below w.heap.size w w' := by
  obtain ⟨i0, hi, hz0, hz1, hz2⟩ := info_parts infoByte'
  have Hi := Lib.hid hi
  have Hz0 := Lib.hid hz0
  have Hz1 := Lib.hid hz1
  have Hz2 := Lib.hid hz2
  have HL := Lib.hid hL
  have HC := Lib.hid hc
  clear hi hz0 hz1 hz2 hL hc
  go_enter Tryz.func149, Tryz.ntmps149
  go_wp2_with fail
  go_loopg [3, 4] L.length (fun g' s3 s4 wr => ∃ (k n cp : Nat) (A : Option Addr), k + g' = L.length ∧ n = 2 * k ∧ s3 = .slice A n cp ∧ s4 = .int .i64 k ∧ wr.ownsRow w.heap.size 5 1 (.slice A n cp) n (Lib.byteCells (hexs (L.take k))) ∧ Below w.heap.size w wr)
  case atStart => exact ⟨0, 0, 0, none, by omega, rfl, rfl, rfl, own_nil _ _ _ _, Below.refl _ _⟩
  case round =>
    obtain ⟨k, n, cp, A, hk, hn, rfl, rfl, hO, hB⟩ := hrel
    have k0 : (0 : Int) ≤ (k : Int) := by omega
    have HB := Lib.hid hB
    have HS := Lib.hid hB.size
    have HO := Lib.hid hO
    have Hn := Lib.hid hn
    have n9 : n ≤ 2000 := by omega
    clear hB hO hn
    cases gk with
    | zero =>
      have k1 : ¬ (k : Int) < (L.length : Int) := by omega
      have hcv := conv_own HO.out (by rw [hexs_len, List.length_take, Hn.out]; omega)
      rw [List.take_of_length_le (by omega)] at hcv
      go_wp2_with fail
      go_ret
      exact ⟨rfl, HB.out⟩
    | succ g' =>
      have k1 : (k : Int) < (L.length : Int) := by omega
      have hkl : k < L.length := by omega
      obtain ⟨x, hx⟩ : ∃ x, L[k]? = some x := ⟨_, List.getElem?_eq_getElem hkl⟩
      have hx9 := HL.out x (List.mem_of_getElem? hx)
      have hb := HC.out k x hx
      have hcell := (HB.out.cell (p := ⟨g, k, none⟩) (World.block_lt_of_cell? w _ hb)).trans hb
      have hsn : hexs (L.take (k + 1)) = hexs (L.take k) ++ [hch (x / 16), hch (x % 16)] := by rw [take_succ_getD hx, hexs_snoc]
      have HSn := Lib.hid hsn
      obtain ⟨a, ha⟩ : ∃ a, x / 16 = a := ⟨_, rfl⟩
      obtain ⟨b, hbb⟩ : ∃ a, x % 16 = a := ⟨_, rfl⟩
      have ia := fun W => ix16 (d := a) (by omega) W
      have ib := fun W => ix16 (d := b) (by omega) W
      have na := u8_and15 (x := (x : Int)) (by omega) (by omega)
      have ea : (x : Int) / 16 = (a : Int) := by omega
      have eb : (x : Int) % 16 = (b : Int) := by omega
      have x0 : (0 : Int) ≤ (x : Int) := by omega
      have x9 : (x : Int) ≤ 255 := by omega
      have HAB := Lib.hid (And.intro ha hbb)
      clear hsn ha hbb hb hx hx9 hkl
      go_upto_block 1 with fail
      go_cut [3] (fun s3 W => ∃ (cp2 : Nat) (A2 : Option Addr), s3 = .slice A2 (n + 2) cp2 ∧ W.ownsRow w.heap.size 5 1 (.slice A2 (n + 2) cp2) (n + 2) (Lib.byteCells (hexs (L.take (k + 1)))) ∧ Below w.heap.size w W)
      case first =>
        go_wp2_with fail
        go_region_law (refine step_append_lies _ (by rfl) _ _ _ (by rfl) w.heap.size 5 i0 _ 1 1 Tryz.underlying110 Hi.out Hz0.out Hz1.out Hz2.out rfl (by omega) (.slice A n cp) n (Lib.byteCells (hexs (L.take k))) (by rfl) ((HO.out.alloc _).drew) ⟨wr.heap.size, 0, none⟩ 2 2 [.int .u8 ((hch a).toNat : Int), .int .u8 ((hch b).toNat : Int)] (by rfl) (by rfl) (World.news_of_block (cs := #[.int .u8 ((hch a).toNat : Int), .int .u8 ((hch b).toNat : Int)]) (t := 5) (fr := (0, 0)) (heap_alloc_new _ _)) (by intro u hu; simp at hu; rcases hu with rfl | rfl <;> rfl) (by omega) (by simp only [maxLen]; omega) (by omega) (by have := HS.out; simp; omega) (wr.heap.size + 1) (by simp) ?_; intro gg cap w6 hown6 hgrow hat hlt6)
        all_goals
          have hb6 := ((HB.out.alloc HS.out _).drew).grown hgrow (by have := HS.out; simp; omega) (fun j e => (HO.out.lt j e).1)
          have hown7 : w6.ownsRow w.heap.size 5 1 (.slice (some ⟨gg, 0, none⟩) (n + 2) cap) (n + 2) (Lib.byteCells (hexs (L.take (k + 1)))) := by
            rw [HSn.out, HAB.out.1, HAB.out.2, Lib.byteCells_append]
            exact hown6
          have HF := Lib.hid (And.intro hown7 hb6)
          clear hown6 hgrow hat hlt6 hb6 hown7
          go_wp2_with fail
          go_meet
          exact ⟨cap, _, rfl, HF.out.1, HF.out.2⟩
      case rest =>
        obtain ⟨cp2, A2, rfl, hO2, hB2⟩ := hcut
        have HO2 := Lib.hid hO2
        have HB2 := Lib.hid hB2
        clear hO2 hB2
        go_wp2_with fail
        go_roundg g'
        case measure => omega
        case rel => exact ⟨k + 1, n + 2, cp2, A2, by omega, by have := Hn.out; omega, rfl, by go_num, HO2.out, HB2.out⟩
/-- Without the noughts ahead, but the last. -/
def stripL : List UInt8 → List UInt8
  | [] => []
  | [b] => [b]
  | b :: c :: r => if b = 48 then stripL (c :: r) else b :: c :: r
theorem hch0 : hch 0 = 48 := rfl
theorem hch_ne {d : Nat} (h : d < 16) (h0 : d ≠ 0) : hch d ≠ 48 := by
  have h1 : ∀ x : Fin 16, x.val ≠ 0 → hch x.val ≠ 48 := by decide
  exact h1 ⟨d, h⟩ h0
theorem strip_keep {b : UInt8} (r : List UInt8) (h : b ≠ 48) : stripL (b :: r) = b :: r := by
  cases r with
  | nil => rfl
  | cons c r => show (if b = 48 then _ else _) = _; rw [if_neg h]
theorem strip_drop (c : UInt8) (r : List UInt8) : stripL (48 :: c :: r) = stripL (c :: r) := by
  show (if (48 : UInt8) = 48 then _ else _) = _
  rw [if_pos rfl]
theorem strip_hex {g : Nat} (h : g < 65536) : stripL (hexs [g / 256, g % 256]) = hexL g := by
  have e : hexs [g / 256, g % 256] = [hch (g / 4096), hch (g / 256 % 16), hch (g / 16 % 16), hch (g % 16)] := by
    show [hch (g / 256 / 16), hch (g / 256 % 16), hch (g % 256 / 16), hch (g % 256 % 16)] = _
    rw [show g / 256 / 16 = g / 4096 from by omega, show g % 256 / 16 = g / 16 % 16 from by omega, show g % 256 % 16 = g % 16 from by omega]
  rw [e]
  unfold hexL hexF
  by_cases h1 : g < 16
  · rw [if_pos h1, show g / 4096 = 0 from by omega, show g / 256 % 16 = 0 from by omega, show g / 16 % 16 = 0 from by omega, show g % 16 = g from by omega, hch0, strip_drop, strip_drop, strip_drop]
    rfl
  · rw [if_neg h1]
    unfold hexF
    by_cases h2 : g / 16 < 16
    · rw [if_pos h2, show g / 4096 = 0 from by omega, show g / 256 % 16 = 0 from by omega, show g / 16 % 16 = g / 16 from by omega, hch0, strip_drop, strip_drop, strip_keep _ (hch_ne h2 (by omega))]
      rfl
    · rw [if_neg h2]
      unfold hexF
      by_cases h3 : g / 16 / 16 < 16
      · rw [if_pos h3, show g / 4096 = 0 from by omega, show g / 256 % 16 = g / 16 / 16 from by omega, hch0, strip_drop, strip_keep _ (hch_ne h3 (by omega))]
        rfl
      · rw [if_neg h3]
        unfold hexF
        rw [if_pos (by omega), strip_keep _ (hch_ne (by omega) (by omega)), show g / 16 / 16 / 16 = g / 4096 from by omega, show g / 16 / 16 % 16 = g / 256 % 16 from by omega]
        rfl
end Go.Proofs.YtffkaphbgfdpaaaGreatDoor
end

section
/- The document's short text, row of noughts. -/
namespace Go.Proofs.YtffkaphbgfdpaaaGreatDoor
open Go.RowKit Go.Shelf Go.Deep
set_option linter.unusedVariables false
set_option linter.unusedSimpArgs false

theorem bytesG_get : ∀ (gs : List Nat) (k g : Nat), gs[k]? = some g → (bytesG gs)[2 * k]? = some (g / 256) ∧ (bytesG gs)[2 * k + 1]? = some (g % 256)
  | [], k, g, h => by cases h
  | a :: gs, 0, g, h => by cases h; exact ⟨rfl, rfl⟩
  | a :: gs, k + 1, g, h => by
    have ih := bytesG_get gs k g h
    show (a / 256 :: a % 256 :: bytesG gs)[2 * (k + 1)]? = _ ∧ (a / 256 :: a % 256 :: bytesG gs)[2 * (k + 1) + 1]? = _
    rw [show 2 * (k + 1) = 2 * k + 1 + 1 from by omega]
    exact ih
theorem bytes_lt {gs : List Nat} (h : ∀ g ∈ gs, g < 65536) : ∀ x ∈ bytesG gs, x < 256 := by
  intro x hx
  unfold bytesG at hx
  obtain ⟨g, hg, hx⟩ := List.mem_flatMap.1 hx
  have := h g hg
  rcases List.mem_cons.1 hx with rfl | hx
  · omega
  · rw [List.mem_singleton.1 hx]; omega
set_option maxRecDepth 100000 in
set_option maxHeartbeats 3200000 in
theorem rshort_any (x y : Nat) (w : World) (hx : x < 256) (hy : y < 256) : Calls Tryz.prog 115 #[.int .u8 x, .int .u8 y] w fun e w' => e = .returned (.string (bs (stripL (hexs [x, y])))) ∧ Below w.heap.size w w' := by
  have ch := rhex_any w.heap.size 2 [x, y] (w.alloc (.cells #[.int .u8 (x : Int), .int .u8 (y : Int)] 5)) (by intro z hz; simp at hz; omega) (by show 2 ≤ 1000; decide) (by
    intro k z hz
    have h := heap_alloc_new w (.cells #[.int .u8 (x : Int), .int .u8 (y : Int)] 5)
    rw [cell_of_row _ _ _ _ _ _ h]
    match k, hz with
    | 0, hz => cases hz; rfl
    | 1, hz => cases hz; rfl
    | k + 2, hz => cases hz)
  obtain ⟨S0, hS0⟩ : ∃ S, bs (hexs [x, y]) = S := ⟨_, rfl⟩
  have hl0 : S0.data.toList = hexs [x, y] := by rw [← hS0, bs_list]
  have hz0 : S0.size = 4 := by rw [← size_list, hl0]; rfl
  rw [hS0] at ch
  have Ch := Lib.hid ch
  have HL0 := Lib.hid hl0
  have HZ0 := Lib.hid hz0
  clear ch hS0 hl0 hz0
  obtain ⟨R, hR⟩ : ∃ R, stripL (hexs [x, y]) = R := ⟨_, rfl⟩
  rw [hR]
  have HR := Lib.hid hR
  clear hR
  go_enter Tryz.func115, Tryz.ntmps115
  go_wp2_with fail
  refine Ch.out.mono ?_
  rintro e w1 ⟨rfl, hB⟩
  have HB := Lib.hid (((Below.refl _ w).alloc (Nat.le_refl _) (.cells #[.int .u8 (x : Int), .int .u8 (y : Int)] 5)).trans (hB.mono (by simp)))
  clear hB
  go_wp2_with fail
  go_loopg [5] 5 (fun g s5 wr => ∃ S : ByteArray, s5 = .string S ∧ S.size < g ∧ S.size ≤ 4 ∧ Aside (stripL S.data.toList = R) ∧ w1 = wr)
  case atStart => exact ⟨S0, rfl, by have := HZ0.out; omega, by have := HZ0.out; omega, by
      show _ = _
      rw [HL0.out]
      exact HR.out, rfl⟩
  case round =>
    obtain ⟨S, rfl, hg, h4, hA, rfl⟩ := hrel
    have HA := Lib.hid hA.out
    have s4 : (S.size : Int) ≤ 4 := by omega
    clear hA
    by_cases h1 : 1 < S.size
    · have d1 : (S.size : Int) > 1 := by omega
      have s0 : (0 : Int) < (S.size : Int) := by omega
      have hp : 0 < S.size := by omega
      obtain ⟨b, hb⟩ : ∃ b, S[0] = b := ⟨_, rfl⟩
      have hd := drop_byte (s := S) (i := 0) (by omega)
      have hd1 := drop_byte (s := S) (i := 1) (by omega)
      rw [List.drop_zero, hb, hd1] at hd
      have hA2 := HA.out
      rw [hd] at hA2
      by_cases h48 : b = 48
      · have d2 : ((b.toNat : Int) == 48) = true := by rw [h48]; rfl
        subst h48
        rw [strip_drop, ← hd1] at hA2
        have hx : (S.extract 1 S.size).data.toList = S.data.toList.drop 1 := by
          rw [extract_list, List.take_of_length_le (by rw [List.length_drop, size_list]; omega)]
        have HX := Lib.hid (show stripL (S.extract 1 S.size).data.toList = R by rw [hx]; exact hA2)
        have s1 : (1 : Int) ≤ (S.size : Int) := by omega
        obtain ⟨g, rfl⟩ : ∃ g', gk = g' + 1 := ⟨gk - 1, by omega⟩
        clear hA2 hd hd1 hx
        go_wp2_with fail
        go_roundg g
        case measure => omega
        case rel => exact ⟨_, rfl, by rw [ByteArray.size_extract]; omega, by rw [ByteArray.size_extract]; omega, HX.out, rfl⟩
      · have d2 : ((b.toNat : Int) == 48) = false := by
          rw [beq_eq_false_iff_ne]
          intro h
          exact h48 (UInt8.toNat_inj.1 (by show b.toNat = 48; omega))
        rw [strip_keep _ h48, ← hd] at hA2
        have HF := Lib.hid (show S = bs R from ((bs_eq_iff R S).2 hA2.symm).symm)
        clear hA2 hd hd1 h48
        go_wp2_with fail
        go_ret
        rw [← HF.out]; exact ⟨rfl, HB.out⟩
    · have d1 : ¬ (S.size : Int) > 1 := by omega
      have hA2 : S.data.toList = R := by
        have h := HA.out
        have hl := size_list S
        match hd : S.data.toList with
        | [] => rw [hd] at h; exact h
        | [b] => rw [hd] at h; exact h
        | b :: c :: r => rw [hd] at hl; simp at hl; omega
      have HF := Lib.hid (show S = bs R from ((bs_eq_iff R S).2 hA2.symm).symm)
      clear hA2
      go_wp2_with fail
      go_ret
      rw [← HF.out]; exact ⟨rfl, HB.out⟩
theorem rowZ_step (zs : List Bool) (k : Nat) : rowZ zs k = match zs[k]? with
    | some true => rowZ zs (k + 1) + 1
    | _ => 0 := by
  unfold rowZ
  cases h : zs[k]? with
  | none =>
    have : zs.length ≤ k := List.getElem?_eq_none_iff.1 h
    rw [List.drop_of_length_le this]
    rfl
  | some b =>
    have hlt : k < zs.length := (List.getElem?_eq_some_iff.1 h).1
    rw [List.drop_eq_getElem_cons hlt]
    have hb : zs[k] = b := (List.getElem?_eq_some_iff.1 h).2
    rw [hb]
    cases b with
    | true => simp
    | false => simp
theorem rowZ_le (zs : List Bool) (k : Nat) : rowZ zs k ≤ zs.length - k := by
  unfold rowZ
  have h1 := (List.takeWhile_sublist (p := id) (l := zs.drop k)).length_le
  rw [List.length_drop] at h1
  exact h1
theorem flags_get {gs : List Nat} {k g : Nat} (h : gs[k]? = some g) : (flags gs)[k]? = some (g == 0) := by
  unfold flags
  rw [List.getElem?_map, h]
  rfl
set_option maxRecDepth 100000 in
set_option maxHeartbeats 3200000 in
theorem rrow_any (gs : List Nat) (from_ : Nat) (w : World) (h8 : gs.length = 8) (hg : ∀ g ∈ gs, g < 65536) (hf : from_ ≤ 8) : Calls Tryz.prog 114 #[agg16 (bytesG gs), .int .i64 from_] w fun e w' => e = .returned (.int .i64 (rowZ (flags gs) from_ : Nat)) ∧ Below w.heap.size w w' := by
  have hA := ArrAt.new T16 w (bytesG gs)
  have HA := Lib.hid hA
  have HG := Lib.hid hg
  have H8 := Lib.hid h8
  obtain ⟨R, hR⟩ : ∃ R, rowZ (flags gs) from_ = R := ⟨_, rfl⟩
  rw [hR]
  have HR := Lib.hid hR
  have hB0 : Below w.heap.size w (w.alloc (.cells (a16 (bytesG gs)) T16)) := (Below.refl _ w).alloc (Nat.le_refl _) _
  have HB0 := Lib.hid hB0
  have hf8 : (from_ : Int) ≤ 8 := by omega
  have hf0 : (0 : Int) ≤ (from_ : Int) := by omega
  clear hA hg h8 hR hB0
  go_enter Tryz.func114, Tryz.ntmps114
  go_wp2_with fail
  go_loopg [5] (8 - from_) (fun g s5 wr => ∃ k : Nat, k + g = 8 ∧ from_ ≤ k ∧ s5 = .int .i64 k ∧ Aside (k + rowZ (flags gs) k = from_ + R) ∧ ArrAt T16 wr w.heap.size (bytesG gs) ∧ Below w.heap.size w wr)
  case atStart => exact ⟨from_, by omega, Nat.le_refl _, rfl, by
      show _ = _
      rw [HR.out], HA.out, HB0.out⟩
  case round =>
    obtain ⟨k, hk, hfk, rfl, hQ, hA, hB⟩ := hrel
    have k0 : (0 : Int) ≤ (k : Int) := by omega
    have kf : (from_ : Int) ≤ (k : Int) := by omega
    have HB := Lib.hid hB
    have HQ := Lib.hid hQ.out
    have HA := Lib.hid hA
    clear hB hQ hA
    by_cases h8 : k < 8
    · have k1 : (k : Int) < 8 := by omega
      obtain ⟨x, hx⟩ : ∃ x, gs[k]? = some x := ⟨_, List.getElem?_eq_getElem (by rw [H8.out]; exact h8)⟩
      have hx9 := HG.out x (List.mem_of_getElem? hx)
      have hb := bytesG_get gs k x hx
      have hfl := flags_get hx
      have hst := rowZ_step (flags gs) k
      rw [hfl] at hst
      obtain ⟨p, hp⟩ : ∃ p, 2 * k = p := ⟨_, rfl⟩
      rw [hp] at hb
      have e1 : (2 : Int) * (k : Int) = (p : Int) := by omega
      have p1 : (p : Int) ≤ 14 := by omega
      have p0 : (0 : Int) ≤ (p : Int) := by omega
      have t1 : ((p : Int) + 1).toNat = p + 1 := by omega
      obtain ⟨a, ha⟩ : ∃ a, x / 256 = a := ⟨_, rfl⟩
      obtain ⟨b, hbb⟩ : ∃ b, x % 256 = b := ⟨_, rfl⟩
      rw [ha, hbb] at hb
      have hc1 := HA.out.cell hb.1
      have hc2 := HA.out.cell hb.2
      have HX := Lib.hid (And.intro ha hbb)
      have HST := Lib.hid hst
      have HP := Lib.hid hp
      clear hb hfl hst ha hbb hp hx
      by_cases hz1 : a = 0
      · have z1 : ((a : Int) == 0) = true := by rw [hz1]; rfl
        by_cases hz2 : b = 0
        · have z2 : ((b : Int) == 0) = true := by rw [hz2]; rfl
          have hx0 : x = 0 := by have := HX.out.1; have := HX.out.2; omega
          have hst := HST.out
          rw [hx0] at hst
          have hq : k + 1 + rowZ (flags gs) (k + 1) = from_ + R := by
            have h1 := HQ.out
            have h2 : rowZ (flags gs) k = rowZ (flags gs) (k + 1) + 1 := hst
            omega
          have HQ2 := Lib.hid hq
          obtain ⟨g, rfl⟩ : ∃ g', gk = g' + 1 := ⟨gk - 1, by omega⟩
          clear hq hst hx0 hz1 hz2 hx9
          go_wp2_with fail
          go_roundg g
          case measure => omega
          case rel => exact ⟨k + 1, by omega, by omega, by go_num, HQ2.out, HA.out, HB.out⟩
        · have z2 : ((b : Int) == 0) = false := by
            rw [beq_eq_false_iff_ne]
            omega
          have hst := HST.out
          have hx0 : (x == 0) = false := by
            rw [beq_eq_false_iff_ne]
            intro h
            have := HX.out.2
            rw [h] at this
            exact hz2 this.symm
          rw [hx0] at hst
          have hq : (k : Int) - (from_ : Int) = (R : Int) := by
            have h1 := HQ.out
            have h2 : rowZ (flags gs) k = 0 := hst
            omega
          clear hst hx0 hz1 hz2 hx9
          go_wp2_with fail
          go_ret
          exact ⟨rfl, HB.out⟩
      · have z1 : ((a : Int) == 0) = false := by
          rw [beq_eq_false_iff_ne]
          omega
        have hst := HST.out
        have hx0 : (x == 0) = false := by
          rw [beq_eq_false_iff_ne]
          intro h
          have := HX.out.1
          rw [h] at this
          exact hz1 this.symm
        rw [hx0] at hst
        have hq : (k : Int) - (from_ : Int) = (R : Int) := by
          have h1 := HQ.out
          have h2 : rowZ (flags gs) k = 0 := hst
          omega
        clear hst hx0 hz1 hx9
        go_wp2_with fail
        go_ret
        exact ⟨rfl, HB.out⟩
    · have k1 : ¬ (k : Int) < 8 := by omega
      have hq : (k : Int) - (from_ : Int) = (R : Int) := by
        have h1 := HQ.out
        have h2 : rowZ (flags gs) k ≤ (flags gs).length - k := rowZ_le _ _
        have h3 : (flags gs).length = 8 := by unfold flags; rw [List.length_map, H8.out]
        omega
      go_wp2_with fail
      go_ret
      exact ⟨rfl, HB.out⟩
end Go.Proofs.YtffkaphbgfdpaaaGreatDoor
end

section
/- The document's Print6. -/
namespace Go.Proofs.YtffkaphbgfdpaaaGreatDoor
open Go.RowKit Go.Shelf Go.Deep
set_option linter.unusedVariables false
set_option linter.unusedSimpArgs false

theorem held16 {b p q : Nat} {u v : Value} {w0 w4 w5 : World} (h : w4.cell? ⟨b, p, none⟩ = some u ∧ w4.cell? ⟨b, q, none⟩ = some v ∧ Below w0.heap.size w0 w4) (hB : Below w4.heap.size w4 w5) : w5.cell? ⟨b, p, none⟩ = some u ∧ w5.cell? ⟨b, q, none⟩ = some v ∧ Below w0.heap.size w0 w5 :=
  ⟨(hB.cell (p := ⟨b, p, none⟩) (World.block_lt_of_cell? w4 _ h.1)).trans h.1, (hB.cell (p := ⟨b, q, none⟩) (World.block_lt_of_cell? w4 _ h.2.1)).trans h.2.1, h.2.2.trans (hB.mono h.2.2.size)⟩
theorem txR_len (gs : List Nat) (f : Int) (l : Nat) (h : ∀ g, (hexL (gs.getD g 0)).length ≤ 4) : ∀ n i : Nat, (txR gs f l n i).length ≤ 6 * n
  | 0, i => Nat.le_refl _
  | n + 1, i => by
    unfold txR
    split
    · exact Nat.zero_le _
    · split
      · have := txR_len gs f l h n (i + l)
        show (txR gs f l n (i + l)).length + 1 + 1 ≤ _
        omega
      · have h1 := txR_len gs f l h n (i + 1)
        have h2 := h i
        rw [List.length_append, List.length_append]
        split
        · show 1 + _ ≤ _
          omega
        · show 0 + _ ≤ _
          omega
set_option maxRecDepth 100000 in
set_option maxHeartbeats 3200000 in
theorem rprint6_any (gs : List Nat) (w : World) (h8 : gs.length = 8) (hg : ∀ g ∈ gs, g < 65536) : Calls Tryz.prog 58 #[agg16 (bytesG gs)] w fun e w' => e = .returned (.string (bs (print6L gs))) ∧ Below w.heap.size w w' := by
  have hA := ArrAt.new T16 w (bytesG gs)
  have HA := Lib.hid hA
  have HG := Lib.hid hg
  have H8 := Lib.hid h8
  have hB0 : Below w.heap.size w (w.alloc (.cells (a16 (bytesG gs)) T16)) := (Below.refl _ w).alloc (Nat.le_refl _) _
  have HB0 := Lib.hid hB0
  have hbl : (bytesG gs).length = 16 := by rw [bytesG_len]; omega
  have HL := Lib.hid hbl
  have crow := fun k W (hk : k ≤ 8) => rrow_any gs k W h8 hg hk
  have Crow := Lib.hid crow
  have HR := Lib.hid (gap_same (zs := flags gs) (by unfold flags; rw [List.length_map, h8]))
  clear hA hg h8 hB0 hbl crow
  go_enter Tryz.func58, Tryz.ntmps58
  go_wp2_with fail
  go_loopg [3, 4, 5] 8 (fun g s3 s4 s5 wr => ∃ (k l : Nat) (f : Int), k + g = 8 ∧ s3 = .int .i64 f ∧ s4 = .int .i64 (l : Nat) ∧ s5 = .int .i64 k ∧ Aside (gapR (flags gs) k = (f, l)) ∧ Aside (-1 ≤ f ∧ f ≤ 8 ∧ l ≤ 8) ∧ ArrAt T16 wr w.heap.size (bytesG gs) ∧ Below w.heap.size w wr)
  case atStart => exact ⟨0, 1, -1, by omega, rfl, rfl, rfl, by
      show _ = _
      rfl, by show _ ∧ _; omega, HA.out, HB0.out⟩
  case round =>
    obtain ⟨k, l, f, hk, rfl, rfl, rfl, hQ, hF, hA, hB⟩ := hrel
    have k0 : (0 : Int) ≤ (k : Int) := by omega
    have HB := Lib.hid hB
    have HQ := Lib.hid hQ.out
    have HF := Lib.hid hF.out
    have HA := Lib.hid hA
    clear hB hQ hA hF
    cases gk with
    | succ g =>
      have k1 : (k : Int) < 8 := by omega
      have ld := run_loadA HA.out HL.out
      obtain ⟨r, hr⟩ : ∃ r, rowZ (flags gs) k = r := ⟨_, rfl⟩
      have c1 := Crow.out k wr (by omega)
      rw [hr] at c1
      have c2 := fun W => Crow.out k W (by omega)
      rw [hr] at c2
      have hst : gapR (flags gs) (k + 1) = if l < r then ((k : Int), r) else (f, l) := by
        show stepR (flags gs) k (gapR (flags gs) k) = _
        rw [HQ.out]
        show (if l < rowZ (flags gs) k then _ else _) = _
        rw [hr]
      have hr8 : r ≤ 8 := by
        have h2 : rowZ (flags gs) k ≤ (flags gs).length - k := rowZ_le _ _
        have h3 : (flags gs).length = 8 := by unfold flags; rw [List.length_map, H8.out]
        omega
      have C1 := Lib.hid c1
      have C2 := Lib.hid c2
      clear c1 c2 hr
      by_cases hlr : l < r
      · have t1 : (r : Int) > (l : Int) := by omega
        rw [if_pos hlr] at hst
        have HS := Lib.hid hst
        clear hst hlr
        go_wp2_with fail
        with_reducible refine C1.out.mono ?_
        rintro e w1 ⟨rfl, hB1⟩
        have HA1 := Lib.hid (HA.out.later hB1)
        have HB1 := Lib.hid (HB.out.trans (hB1.mono HB.out.size))
        have ld1 := run_loadA HA1.out HL.out
        clear hB1
        go_wp2_with fail
        with_reducible refine (C2.out _).mono ?_
        rintro e w2 ⟨rfl, hB2⟩
        have HA2 := Lib.hid (HA1.out.later hB2)
        have HB2 := Lib.hid (HB1.out.trans (hB2.mono HB1.out.size))
        clear hB2 ld1 ld
        go_wp2_with fail
        go_roundg g
        case measure => omega
        case rel => exact ⟨k + 1, r, (k : Int), by omega, rfl, rfl, by go_num, HS.out, by show _ ∧ _; omega, HA2.out, HB2.out⟩
      · have t1 : ¬ (r : Int) > (l : Int) := by omega
        rw [if_neg hlr] at hst
        have HS := Lib.hid hst
        clear hst hlr
        go_wp2_with fail
        with_reducible refine C1.out.mono ?_
        rintro e w1 ⟨rfl, hB1⟩
        have HA1 := Lib.hid (HA.out.later hB1)
        have HB1 := Lib.hid (HB.out.trans (hB1.mono HB.out.size))
        clear hB1 ld
        go_wp2_with fail
        go_roundg g
        case measure => omega
        case rel => exact ⟨k + 1, l, f, by omega, rfl, rfl, by go_num, HS.out, HF.out, HA1.out, HB1.out⟩
    | zero =>
      have k1 : ¬ (k : Int) < 8 := by omega
      have hk8 : k = 8 := by omega
      have hq : txR gs f l 9 0 = print6L gs ∧ ((f = -1 ∧ l = 1) ∨ (0 ≤ f ∧ 2 ≤ l ∧ f + l ≤ 8)) := by
        have h1 := HQ.out
        rw [hk8] at h1
        rcases HR.out with ⟨h2, h3⟩ | ⟨a, b, h2, h3, h4, h5⟩
        · rw [h1] at h2
          injection h2 with h6 h7
          subst h6
          subst h7
          refine ⟨?_, .inl ⟨rfl, rfl⟩⟩
          rw [txR_none gs H8.out]
          unfold print6L
          rw [h3]
        · rw [h1] at h2
          injection h2 with h6 h7
          subst h6
          subst h7
          refine ⟨?_, .inr ⟨by omega, h4, by omega⟩⟩
          rw [txR_gap gs a l H8.out h4 h5]
          unfold print6L
          rw [h3]
      have hlen : (print6L gs).length ≤ 54 := by
        rw [← hq.1]
        exact txR_len gs f l (fun g => hexL_len _) 9 0
      have HE := Lib.hid hq.1
      have HN := Lib.hid hlen
      have hfl := hq.2
      have f0 : -1 ≤ f := by omega
      have f1 : f ≤ 8 := by omega
      have l0 : (0 : Int) ≤ (l : Int) := by omega
      have l1 : (l : Int) ≤ 8 := by omega
      have HFL := Lib.hid hfl
      clear hq hk8 hlen hfl
      go_wp2_with fail
      go_loopg [6, 7] 8 (fun g s6 s7 wr => ∃ (i n : Nat) (S : ByteArray), 8 ≤ i + g ∧ i ≤ 8 ∧ 9 ≤ n + i ∧ s6 = .string S ∧ s7 = .int .i64 i ∧ Aside (S.data.toList ++ txR gs f l n i = print6L gs) ∧ ArrAt T16 wr w.heap.size (bytesG gs) ∧ Below w.heap.size w wr)
      case atStart => exact ⟨0, 9, ⟨#[]⟩, by omega, by omega, by omega, rfl, rfl, by
        show _ = _
        exact HE.out, HA.out, HB.out⟩
      case round =>
        obtain ⟨i, n, S, hig, hi8, hn, rfl, rfl, hQ2, hA2, hB2⟩ := hrel
        have i0 : (0 : Int) ≤ (i : Int) := by omega
        have i8 : (i : Int) ≤ 8 := by omega
        have HB2 := Lib.hid hB2
        have HQ2 := Lib.hid hQ2.out
        have HA2 := Lib.hid hA2
        clear hB2 hQ2 hA2
        obtain ⟨n, rfl⟩ : ∃ m, n = m + 1 := ⟨n - 1, by omega⟩
        have hS9 : S.size ≤ 54 := by
          have h1 := HN.out
          rw [← HQ2.out, List.length_append, size_list] at h1
          omega
        by_cases hi : i < 8
        · have j1 : (i : Int) < 8 := by omega
          by_cases hif : (i : Int) = f
          · have t1 : ((i : Int) == f) = true := by rw [hif]; exact beq_self_eq_true _
            have hq := HQ2.out
            unfold txR at hq
            rw [if_neg (by omega), if_pos hif] at hq
            have hl8 : i + l ≤ 8 := by rcases HFL.out with ⟨h1, h2⟩ | ⟨h1, h2, h3⟩ <;> omega
            have hl1 : 1 ≤ l := by rcases HFL.out with ⟨h1, h2⟩ | ⟨h1, h2, h3⟩ <;> omega
            obtain ⟨D, hD⟩ : ∃ D, S ++ ⟨#[58, 58]⟩ = D := ⟨_, rfl⟩
            have a1 : ∀ W, (Op.stringOp .add S ⟨#[58, 58]⟩).run Tryz.prog W = .ok (.string D) W := fun W => add_strs (by show S.size + 2 ≤ _; omega) hD W
            have hq2 : D.data.toList ++ txR gs f l n (i + l) = print6L gs := by
              rw [← hq, ← hD, append_list, List.append_assoc]
              rfl
            have HX := Lib.hid hq2
            obtain ⟨g, rfl⟩ : ∃ g', gk = g' + 1 := ⟨gk - 1, by omega⟩
            have l2 : (1 : Int) ≤ (l : Int) := by omega
            clear hq hq2 hif hD
            go_wp2_with fail
            go_roundg g
            case measure => omega
            case rel => exact ⟨i + l, n, D, by omega, hl8, by omega, rfl, by
              rw [show (i : Int) + (l : Int) = ((i + l : Nat) : Int) by omega], HX.out, HA2.out, HB2.out⟩
          · have t1 : ((i : Int) == f) = false := by
              rw [beq_eq_false_iff_ne]
              exact hif
            have hq := HQ2.out
            unfold txR at hq
            rw [if_neg (by omega), if_neg hif] at hq
            obtain ⟨x, hx⟩ : ∃ x, gs[i]? = some x := ⟨_, List.getElem?_eq_getElem (by rw [H8.out]; exact hi)⟩
            have hx9 := HG.out x (List.mem_of_getElem? hx)
            have hb := bytesG_get gs i x hx
            rw [List.getD_eq_getElem?_getD, hx] at hq
            have hq : S.data.toList ++ ((if 0 < i ∧ ¬ (i : Int) = f + l then [58] else []) ++ (hexL x ++ txR gs f l n (i + 1))) = print6L gs := hq
            have cs := fun W => rshort_any (x / 256) (x % 256) W (by omega) (by omega)
            rw [strip_hex hx9] at cs
            obtain ⟨D, hD⟩ : ∃ D, bs (hexL x) = D := ⟨_, rfl⟩
            have hDz : D.size ≤ 4 := by rw [← hD, bs_size]; exact hexL_len x
            have hDl : D.data.toList = hexL x := by rw [← hD, bs_list]
            rw [hD] at cs
            obtain ⟨p, hp⟩ : ∃ p, 2 * i = p := ⟨_, rfl⟩
            rw [hp] at hb
            have e1 : (2 : Int) * (i : Int) = (p : Int) := by omega
            have p1 : (p : Int) ≤ 14 := by omega
            have p0 : (0 : Int) ≤ (p : Int) := by omega
            obtain ⟨a, ha⟩ : ∃ a, x / 256 = a := ⟨_, rfl⟩
            obtain ⟨b, hbb⟩ : ∃ b, x % 256 = b := ⟨_, rfl⟩
            rw [ha, hbb] at hb cs
            have HCs := Lib.hid cs
            have HX := Lib.hid hb
            have HD := Lib.hid hDl
            clear hb ha hbb hp hx cs hDl hD hx9
            by_cases hi0 : 0 < i
            · have t2 : (i : Int) > 0 := by omega
              by_cases hfl : (i : Int) = f + l
              · have t3 : ((i : Int) == f + (l : Int)) = true := by rw [hfl]; exact beq_self_eq_true _
                rw [if_neg (by intro h; exact h.2 hfl), ← HD.out] at hq
                have HQ3 : Hid (S.data.toList ++ (D.data.toList ++ txR gs f l n (i + 1)) = print6L gs) := Lib.hid hq
                have hEz : S.size ≤ 55 := by omega
                clear hq hfl hif
                go_wp2_with fail
                obtain ⟨F, hF⟩ : ∃ F, S ++ D = F := ⟨_, rfl⟩
                have a1 : ∀ W, (Op.stringOp .add S D).run Tryz.prog W = .ok (.string F) W := fun W => add_strs (by omega) hF W
                have hq4 : F.data.toList ++ txR gs f l n (i + 1) = print6L gs := by
                  rw [← HQ3.out, ← hF, append_list, List.append_assoc]
                have HQ4 := Lib.hid hq4
                have hc1 := HA2.out.cell HX.out.1
                have hc2 := HA2.out.cell HX.out.2
                have t9 : ((p : Int) + 1).toNat = p + 1 := by omega
                have e4 : (0 : Int) ≤ (p : Int) + 1 := by omega
                have p3 : (p : Int) < 16 := by omega
                have p4 : (p : Int) + 1 < 16 := by omega
                obtain ⟨g, rfl⟩ : ∃ g', gk = g' + 1 := ⟨gk - 1, by omega⟩
                have e2 : IntKind.i64.wrap ((p : Int)) = (p : Int) := IntWalk.i64_in _ (by omega)
                have e3 : IntKind.i64.wrap ((p : Int) + 1) = (p : Int) + 1 := IntWalk.i64_in _ (by omega)
                clear hF hq4
                go_region_held3 (fun w' => w'.cell? ⟨w.heap.size, p, none⟩ = some (.int .u8 (a : Int)) ∧ w'.cell? ⟨w.heap.size, p + 1, none⟩ = some (.int .u8 (b : Int)) ∧ Below wr.heap.size wr w')
                  (first | exact ⟨hc1, hc2, Below.refl _ _⟩ | exact ⟨hc1, hc2, (Below.refl _ _).drew⟩ | exact held16 (by assumption) (by assumption) | assumption)
                  (first | (go_at_call 115; refine (HCs.out _).mono ?_; rintro e5 w5 ⟨rfl, hB5⟩))
                rename_i hH
                have hA9 := HA2.out.later hH.2.2
                have hB9 := HB2.out.trans (hH.2.2.mono HB2.out.size)
                have HF9 := Lib.hid (And.intro hA9 hB9)
                clear hH hB5 hA9 hB9 e2 e3
                go_wp2_with fail
                go_roundg g
                case measure => omega
                case rel => exact ⟨i + 1, n, F, by omega, by omega, by omega, rfl, by go_num, HQ4.out, HF9.out.1, HF9.out.2⟩
              · have t3 : ((i : Int) == f + (l : Int)) = false := by
                  rw [beq_eq_false_iff_ne]
                  exact hfl
                obtain ⟨E, hE⟩ : ∃ E, S ++ ⟨#[58]⟩ = E := ⟨_, rfl⟩
                have a0 : ∀ W, (Op.stringOp .add S ⟨#[58]⟩).run Tryz.prog W = .ok (.string E) W := fun W => add_strs (by show S.size + 1 ≤ _; omega) hE W
                have hEz : E.size ≤ 55 := by rw [← hE, ByteArray.size_append]; show S.size + 1 ≤ _; omega
                rw [if_pos ⟨hi0, hfl⟩, ← HD.out] at hq
                have hq3 : E.data.toList ++ (D.data.toList ++ txR gs f l n (i + 1)) = print6L gs := by
                  rw [← hq, ← hE, append_list, List.append_assoc]
                have HQ3 := Lib.hid hq3
                clear hq hfl hE hq3 hif
                go_wp2_with fail
                obtain ⟨F, hF⟩ : ∃ F, E ++ D = F := ⟨_, rfl⟩
                have a1 : ∀ W, (Op.stringOp .add E D).run Tryz.prog W = .ok (.string F) W := fun W => add_strs (by omega) hF W
                have hq4 : F.data.toList ++ txR gs f l n (i + 1) = print6L gs := by
                  rw [← HQ3.out, ← hF, append_list, List.append_assoc]
                have HQ4 := Lib.hid hq4
                have hc1 := HA2.out.cell HX.out.1
                have hc2 := HA2.out.cell HX.out.2
                have t9 : ((p : Int) + 1).toNat = p + 1 := by omega
                have e4 : (0 : Int) ≤ (p : Int) + 1 := by omega
                have p3 : (p : Int) < 16 := by omega
                have p4 : (p : Int) + 1 < 16 := by omega
                obtain ⟨g, rfl⟩ : ∃ g', gk = g' + 1 := ⟨gk - 1, by omega⟩
                have e2 : IntKind.i64.wrap ((p : Int)) = (p : Int) := IntWalk.i64_in _ (by omega)
                have e3 : IntKind.i64.wrap ((p : Int) + 1) = (p : Int) + 1 := IntWalk.i64_in _ (by omega)
                clear hF hq4
                go_region_held3 (fun w' => w'.cell? ⟨w.heap.size, p, none⟩ = some (.int .u8 (a : Int)) ∧ w'.cell? ⟨w.heap.size, p + 1, none⟩ = some (.int .u8 (b : Int)) ∧ Below wr.heap.size wr w')
                  (first | exact ⟨hc1, hc2, Below.refl _ _⟩ | exact ⟨hc1, hc2, (Below.refl _ _).drew⟩ | exact held16 (by assumption) (by assumption) | assumption)
                  (first | (go_at_call 115; refine (HCs.out _).mono ?_; rintro e5 w5 ⟨rfl, hB5⟩))
                rename_i hH
                have hA9 := HA2.out.later hH.2.2
                have hB9 := HB2.out.trans (hH.2.2.mono HB2.out.size)
                have HF9 := Lib.hid (And.intro hA9 hB9)
                clear hH hB5 hA9 hB9 e2 e3
                go_wp2_with fail
                go_roundg g
                case measure => omega
                case rel => exact ⟨i + 1, n, F, by omega, by omega, by omega, rfl, by go_num, HQ4.out, HF9.out.1, HF9.out.2⟩
            · have t2 : ¬ (i : Int) > 0 := by omega
              rw [if_neg (by omega), ← HD.out] at hq
              have HQ3 : Hid (S.data.toList ++ (D.data.toList ++ txR gs f l n (i + 1)) = print6L gs) := Lib.hid hq
              have hEz : S.size ≤ 55 := by omega
              clear hq hif
              go_wp2_with fail
              obtain ⟨F, hF⟩ : ∃ F, S ++ D = F := ⟨_, rfl⟩
              have a1 : ∀ W, (Op.stringOp .add S D).run Tryz.prog W = .ok (.string F) W := fun W => add_strs (by omega) hF W
              have hq4 : F.data.toList ++ txR gs f l n (i + 1) = print6L gs := by
                rw [← HQ3.out, ← hF, append_list, List.append_assoc]
              have HQ4 := Lib.hid hq4
              have hc1 := HA2.out.cell HX.out.1
              have hc2 := HA2.out.cell HX.out.2
              have t9 : ((p : Int) + 1).toNat = p + 1 := by omega
              have e4 : (0 : Int) ≤ (p : Int) + 1 := by omega
              have p3 : (p : Int) < 16 := by omega
              have p4 : (p : Int) + 1 < 16 := by omega
              obtain ⟨g, rfl⟩ : ∃ g', gk = g' + 1 := ⟨gk - 1, by omega⟩
              have e2 : IntKind.i64.wrap ((p : Int)) = (p : Int) := IntWalk.i64_in _ (by omega)
              have e3 : IntKind.i64.wrap ((p : Int) + 1) = (p : Int) + 1 := IntWalk.i64_in _ (by omega)
              clear hF hq4
              go_region_held3 (fun w' => w'.cell? ⟨w.heap.size, p, none⟩ = some (.int .u8 (a : Int)) ∧ w'.cell? ⟨w.heap.size, p + 1, none⟩ = some (.int .u8 (b : Int)) ∧ Below wr.heap.size wr w')
                (first | exact ⟨hc1, hc2, Below.refl _ _⟩ | exact ⟨hc1, hc2, (Below.refl _ _).drew⟩ | exact held16 (by assumption) (by assumption) | assumption)
                (first | (go_at_call 115; refine (HCs.out _).mono ?_; rintro e5 w5 ⟨rfl, hB5⟩))
              rename_i hH
              have hA9 := HA2.out.later hH.2.2
              have hB9 := HB2.out.trans (hH.2.2.mono HB2.out.size)
              have HF9 := Lib.hid (And.intro hA9 hB9)
              clear hH hB5 hA9 hB9 e2 e3
              go_wp2_with fail
              go_roundg g
              case measure => omega
              case rel => exact ⟨i + 1, n, F, by omega, by omega, by omega, rfl, by go_num, HQ4.out, HF9.out.1, HF9.out.2⟩
        · have j1 : ¬ (i : Int) < 8 := by omega
          have hF : S = bs (print6L gs) := by
            have hq := HQ2.out
            unfold txR at hq
            rw [if_pos (by omega), List.append_nil] at hq
            exact ((bs_eq_iff _ S).2 hq.symm).symm
          have HF2 := Lib.hid hF
          clear hF
          go_wp2_with fail
          go_ret
          rw [HF2.out]
          exact ⟨rfl, HB2.out⟩
end Go.Proofs.YtffkaphbgfdpaaaGreatDoor
end

section
/- strconv.FormatUint at base 16, of a uint16. -/
namespace Go.Proofs.YtffkaphbgfdpaaaGreatDoor
open Go.RowKit Go.Shelf Go.Deep
set_option linter.unusedVariables false
set_option linter.unusedSimpArgs false

/-- What TrailingZeros64 reads at 16. -/
def Deb (w : World) : Prop := w.cell? ⟨3, 15, none⟩ = some (.int .u8 4)
theorem Deb.later {w W : World} (h : Deb w) (hB : Below w.heap.size w W) : Deb W := (hB.cell (p := ⟨3, 15, none⟩) (World.block_lt_of_cell? w _ h)).trans h
abbrev digs36 : ByteArray := ⟨#[48, 49, 50, 51, 52, 53, 54, 55, 56, 57, 97, 98, 99, 100, 101, 102, 103, 104, 105, 106, 107, 108, 109, 110, 111, 112, 113, 114, 115, 116, 117, 118, 119, 120, 121, 122]⟩
set_option maxRecDepth 10000 in
theorem ix36 {d : Nat} (h : d < 16) (W : World) : (Instr.index 9 (.string digs36) (.int .u64 (d : Int))).run Tryz.prog W = .ok (.int .u8 ((hch d).toNat : Int)) W := by
  have : d = 0 ∨ d = 1 ∨ d = 2 ∨ d = 3 ∨ d = 4 ∨ d = 5 ∨ d = 6 ∨ d = 7 ∨ d = 8 ∨ d = 9 ∨ d = 10 ∨ d = 11 ∨ d = 12 ∨ d = 13 ∨ d = 14 ∨ d = 15 := by omega
  rcases this with rfl | rfl | rfl | rfl | rfl | rfl | rfl | rfl | rfl | rfl | rfl | rfl | rfl | rfl | rfl | rfl <;> exact rfl
/-- The tail of an array of bytes, as a string. -/
theorem conv_tail {t : TypeId} {W : World} {b i c : Nat} {L : List Nat} (h : ArrAt t W b L) (l : List UInt8) (hl : L.drop i = l.map (·.toNat)) : (convert 110 9 (.slice (some ⟨b, i, none⟩) l.length c)).run Tryz.prog W = .ok (.string (bs l)) W := by
  refine run_convert_bytes_back (P := Tryz.prog) W 110 9 5 ⟨b, i, none⟩ c l Tryz.underlying110 Tryz.underlying5 Tryz.underlying9 fun j hj => ?_
  have h1 : L[i + j]? = some l[j].toNat := by
    rw [← List.getElem?_drop, hl, List.getElem?_map, List.getElem?_eq_getElem hj]
    rfl
  have h2 := h.cell h1
  rw [add_plain]
  exact h2
theorem wraps_u64 (n : Int) (h₀ : 0 ≤ n) (h₁ : n < 2 ^ 64) : IntKind.u64.wrap n = n := by rw [IntKind.wrap_u64]; omega
theorem u64_and15 {x : Int} (h₀ : 0 ≤ x) (h₁ : x < 18446744073709551616) : bits .and .u64 x 15 = x % 16 := bits_mask .u64 64 (by decide) wraps_u64 4 (by decide) x h₀ h₁
set_option maxRecDepth 100000 in
theorem pow_any (w : World) : Calls Tryz.prog 192 #[.int .i64 16] w fun e w' => e = .returned (.bool true) ∧ w' = w := by
  go_enter Tryz.func192, Tryz.ntmps192
  go_wp2_with fail
  go_ret
  exact ⟨rfl, rfl⟩
set_option maxRecDepth 100000 in
theorem tz64_any (w : World) (hd : Deb w) : Calls Tryz.prog 200 #[.int .u64 16] w fun e w' => e = .returned (.int .i64 4) ∧ w' = w := by
  have hc : w.cell? ⟨3, 15, none⟩ = some (.int .u8 4) := hd
  have hb : IntKind.u64.wrap (bits BinOp.and IntKind.u64 16 (IntKind.u64.wrap (-16)) * 285870213051353865) / 288230376151711744 = 15 := by decide +kernel
  go_enter Tryz.func200, Tryz.ntmps200
  go_wp2_with fail
  go_ret
  exact ⟨rfl, rfl⟩
set_option maxRecDepth 100000 in
theorem tz_any (w : World) (hd : Deb w) : Calls Tryz.prog 193 #[.int .u64 16] w fun e w' => e = .returned (.int .i64 4) ∧ w' = w := by
  have Ch := Lib.hid (tz64_any w hd)
  go_enter Tryz.func193, Tryz.ntmps193
  go_wp2_with fail
  refine Ch.out.mono ?_
  rintro e w1 ⟨rfl, rfl⟩
  go_wp2_with fail
  go_ret
  exact ⟨rfl, rfl⟩
set_option maxRecDepth 100000 in
set_option maxHeartbeats 3200000 in
theorem bits_any (x : Nat) (w : World) (hx : x < 65536) (hd : Deb w) : Calls Tryz.prog 173 #[.slice none 0 0, .int .u64 x, .int .i64 16, .bool false, .bool false] w fun e w' => e = .returned (.tuple #[.slice none 0 0, .string (bs (hexL x))]) ∧ Below w.heap.size w w' := by
  obtain ⟨R, hR⟩ : ∃ R, hexL x = R := ⟨_, rfl⟩
  rw [hR]
  go_enter Tryz.func173, Tryz.ntmps173
  go_wp2_with fail
  have Ctz := Lib.hid (tz_any (w.alloc (.cells (Array.replicate 65 (.int .u8 0)) 195)) (hd.later ((Below.refl _ w).alloc (Nat.le_refl _) _)))
  refine (pow_any _).mono ?_
  rintro e w1 ⟨rfl, rfl⟩
  go_wp2_with fail
  refine Ctz.out.mono ?_
  rintro e w1 ⟨rfl, rfl⟩
  have hA0 : ArrAt 195 (w.alloc (.cells (Array.replicate 65 (.int .u8 0)) 195)) w.heap.size (List.replicate 65 0) := ArrAt.new 195 w (List.replicate 65 0)
  have hB0 : Below w.heap.size w (w.alloc (.cells (Array.replicate 65 (.int .u8 0)) 195)) := (Below.refl _ w).alloc (Nat.le_refl _) _
  have HA0 := Lib.hid hA0
  have HB0 := Lib.hid hB0
  clear hA0 hB0
  go_wp2_with fail
  have HR := Lib.hid hR
  go_loopg [1, 13] 4 (fun g s1 s13 wr => ∃ (u i : Nat) (L : List Nat), i = 61 + g ∧ 1 ≤ g ∧ s1 = .int .u64 u ∧ s13 = .int .i64 i ∧ ((g = 4 ∧ u < 65536) ∨ (g = 3 ∧ u < 4096) ∨ (g = 2 ∧ u < 256) ∨ (g = 1 ∧ u < 16)) ∧ L.length = 65 ∧ Aside (∃ l : List UInt8, L.drop i = l.map (·.toNat) ∧ R = hexF g u ++ l) ∧ ArrAt 195 wr w.heap.size L ∧ Below w.heap.size w wr)
  case atStart => exact ⟨x, 65, List.replicate 65 0, rfl, by omega, rfl, rfl, .inl ⟨rfl, hx⟩, rfl, ⟨[], rfl, by rw [List.append_nil, ← hR]; rfl⟩, HA0.out, HB0.out⟩
  case round =>
    obtain ⟨u, i, L, hi, hg1, rfl, rfl, hu, hL, hQ, hA, hB⟩ := hrel
    have u0 : (0 : Int) ≤ (u : Int) := by omega
    have u9 : (u : Int) < 65536 := by omega
    have i0 : (62 : Int) ≤ (i : Int) := by omega
    have i9 : (i : Int) ≤ 65 := by omega
    have HB := Lib.hid hB
    have HQ := Lib.hid hQ.out
    have HA := Lib.hid hA
    have HL := Lib.hid hL
    clear hB hQ hA hL
    obtain ⟨j, rfl⟩ : ∃ j, i = j + 1 := ⟨i - 1, by omega⟩
    have ej : ((j + 1 : Nat) : Int) - 1 = (j : Int) := by omega
    have j0 : (0 : Int) ≤ (j : Int) := by omega
    have j9 : (j : Int) < 65 := by omega
    have hjl : j < L.length := by rw [HL.out]; omega
    have ix := fun (d : Nat) (h : d < 16) (v : Nat) (hv : (hch d).toNat = v) W => ix36 h W
    have hdrop : ∀ v : Nat, (L.set j v).drop j = v :: L.drop (j + 1) := fun v => by
      rw [List.drop_eq_getElem_cons (by rw [List.length_set]; exact hjl), List.getElem_set_self, List.drop_set_of_lt (by omega)]
    have HD := Lib.hid hdrop
    clear hdrop ix hR
    by_cases h16 : 16 ≤ u
    · have t1 : (u : Int) ≥ 16 := by omega
      obtain ⟨g, rfl⟩ : ∃ g', gk = g' + 1 := ⟨gk - 1, by omega⟩
      have na := u64_and15 (x := (u : Int)) (by omega) (by omega)
      obtain ⟨d, hd⟩ : ∃ d, u % 16 = d := ⟨_, rfl⟩
      obtain ⟨q, hq⟩ : ∃ q, u / 16 = q := ⟨_, rfl⟩
      have ed : (u : Int) % 16 = (d : Int) := by omega
      have eq : (u : Int) / 16 = (q : Int) := by omega
      have d9 : d < 16 := by omega
      obtain ⟨v, hv⟩ : ∃ v, (hch d).toNat = v := ⟨_, rfl⟩
      have ix := fun W => ix36 d9 W
      rw [hv] at ix
      have hA2 := HA.out.set (i := j) v hjl
      have hB2 := HB.out.setCell (p := ⟨w.heap.size, j, none⟩) (Nat.le_refl _) (.int .u8 (v : Int))
      obtain ⟨y, hy⟩ : ∃ y, L[j]? = some y := ⟨_, List.getElem?_eq_getElem hjl⟩
      have hc0 := HA.out.cell hy
      have hz := HA.out.frozen j
      have hq2 : ∃ l : List UInt8, (L.set j v).drop j = l.map (·.toNat) ∧ R = hexF g q ++ l := by
        obtain ⟨l, h1, h2⟩ := HQ.out
        refine ⟨hch d :: l, ?_, ?_⟩
        · rw [HD.out, h1, ← hv]
          rfl
        · rw [h2]
          show (if u < 16 then [hch u] else hexF g (u / 16) ++ [hch (u % 16)]) ++ l = _
          rw [if_neg (by omega), hq, hd, List.append_assoc]
          rfl
      have HF := Lib.hid (And.intro hA2 (And.intro hB2 hq2))
      have hu2 : ((g = 4 ∧ q < 65536) ∨ (g = 3 ∧ q < 4096) ∨ (g = 2 ∧ q < 256) ∨ (g = 1 ∧ q < 16)) := by omega
      have HU := Lib.hid hu2
      have HI := Lib.hid hi
      clear hA2 hB2 hq2 hv hd hq hu2 hu hx hy hjl hi
      go_wp2_with fail
      go_roundg g
      case measure => omega
      case rel => exact ⟨q, j, L.set j v, by have := HI.out; omega, by have := HU.out; omega, rfl, rfl, HU.out, by rw [List.length_set]; exact HL.out, HF.out.2.2, HF.out.1, HF.out.2.1⟩
    · have t1 : ¬ (u : Int) ≥ 16 := by omega
      have d9 : u < 16 := by omega
      obtain ⟨v, hv⟩ : ∃ v, (hch u).toNat = v := ⟨_, rfl⟩
      have ix := fun W => ix36 d9 W
      rw [hv] at ix
      have hA2 := HA.out.set (i := j) v hjl
      have hB2 := HB.out.setCell (p := ⟨w.heap.size, j, none⟩) (Nat.le_refl _) (.int .u8 (v : Int))
      obtain ⟨y, hy⟩ : ∃ y, L[j]? = some y := ⟨_, List.getElem?_eq_getElem hjl⟩
      have hc0 := HA.out.cell hy
      have hz := HA.out.frozen j
      obtain ⟨l, h1, h2⟩ := HQ.out
      obtain ⟨g, rfl⟩ : ∃ g', gk = g' + 1 := ⟨gk - 1, by omega⟩
      have h3 : (L.set j v).drop j = R.map (·.toNat) := by
        rw [HD.out, h1, h2, ← hv]
        show _ = List.map _ ((if u < 16 then [hch u] else hexF g (u / 16) ++ [hch (u % 16)]) ++ l)
        rw [if_pos d9]
        rfl
      have hl : j + R.length = 65 := by
        have := congrArg List.length h3
        rw [List.length_drop, List.length_set, HL.out, List.length_map] at this
        omega
      have hcv := fun c => conv_tail (c := c) hA2 R h3
      have j65 : (j : Int) ≤ 65 := by omega
      have el : (65 : Int) - (j : Int) = (R.length : Int) := by omega
      have en : 65 - j = R.length := by omega
      have HF := Lib.hid hB2
      clear hi hu hA2 hB2 hv hy hjl h1 h2 h3 hl hx
      go_wp2_with fail
      go_ret2
      exact ⟨rfl, HF.out⟩
set_option maxRecDepth 100000 in
theorem fmtI_any (x : Nat) (w : World) (hx : x < 65536) (hd : Deb w) : Calls Tryz.prog 174 #[.int .u64 x, .int .i64 16] w fun e w' => e = .returned (.string (bs (hexL x))) ∧ Below w.heap.size w w' := by
  have Ch := Lib.hid (bits_any x w hx hd)
  clear hx
  go_enter Tryz.func174, Tryz.ntmps174
  go_wp2_with fail
  with_reducible refine Ch.out.mono ?_
  rintro e w1 ⟨rfl, hB⟩
  have HB := Lib.hid hB
  clear hB
  go_wp2_with fail
  go_ret
  exact ⟨rfl, HB.out⟩
set_option maxRecDepth 100000 in
theorem fmt16_any (x : Nat) (w : World) (hx : x < 65536) (hd : Deb w) : Calls Tryz.prog 154 #[.int .u64 x, .int .i64 16] w fun e w' => e = .returned (.string (bs (hexL x))) ∧ Below w.heap.size w w' := by
  have Ch := Lib.hid (fmtI_any x w hx hd)
  clear hx
  go_enter Tryz.func154, Tryz.ntmps154
  go_wp2_with fail
  with_reducible refine Ch.out.mono ?_
  rintro e w1 ⟨rfl, hB⟩
  have HB := Lib.hid hB
  clear hB
  go_wp2_with fail
  go_ret
  exact ⟨rfl, HB.out⟩
end Go.Proofs.YtffkaphbgfdpaaaGreatDoor
end

section
/- An address's groups, handed out one by one. -/
namespace Go.Proofs.YtffkaphbgfdpaaaGreatDoor
open Go.RowKit Go.Shelf Go.Deep
set_option linter.unusedVariables false
set_option linter.unusedSimpArgs false
attribute [local go_sem] Oper.semAt_some

theorem wraps_u16 (n : Int) (h₀ : 0 ≤ n) (h₁ : n < 2 ^ 16) : IntKind.u16.wrap n = n := by rw [IntKind.wrap_u16]; omega
theorem fin8_take (k : Nat) (h : k < 8) : (List.finRange 8).take (k + 1) = (List.finRange 8).take k ++ [⟨k, h⟩] := by
  rw [List.take_succ_eq_append_getElem (by rw [List.length_finRange]; exact h)]
  simp
/-- A block that stays. -/
def KeepB (B : Nat) (W W' : World) : Prop := W'.heap[B]? = W.heap[B]?
theorem keepB_t {B : Nat} {W1 W2 W3 : World} (h : KeepB B W1 W2) (k : KeepB B W2 W3) : KeepB B W1 W3 := Eq.trans k h
theorem keepB_b {B n : Nat} (hB : B < n) (W : World) (l : Nat) (o o' : Obj) (hl : n ≤ l) (_ : W.heap[l]? = some o) (_ : o.isCells = false) (_ : o.isWalk = false) : KeepB B W (W.putObj l o') :=
  World.putObj_heap_other (by omega)
def gv (gs : List Nat) (k : Fin 8) : Nat := gs.getD k.val 0
def ix8 (k : Fin 8) : Nat := k.val
def encE (gs : List Nat) (k : Fin 8) : Array Value := #[.int .i64 (ix8 k : Int), .int .u16 (gv gs k : Int)]
set_option maxRecDepth 100000 in
set_option maxHeartbeats 400000 in
theorem each_in (F : Fence) (n : Nat) (hF : F.fn 194) (hro : F.round = none) (hn : 1 ≤ n) (gs : List Nat) (h8 : gs.length = 8) (hg : ∀ g ∈ gs, g < 65536) (l Bs : Nat) (J Jx : List (Fin 8) → World → Prop) (W0 : Nat) (hJ : AbidesFrom W0 J)
    (hY : ∀ pre x W, J pre W → pre.length < 8 → YieldAt F (n - 1) Tryz.prog l (encE gs x) W fun e W' =>
      (e = .returned (.bool true) ∧ J (pre ++ [x]) W' ∧ KeepB Bs W W') ∨ (e = .returned (.bool false) ∧ Jx (pre ++ [x]) W'))
    (W : World) (hA : ArrAt T16 W Bs (bytesG gs)) (h0 : J [] W) :
    CallsIn F n Tryz.prog 194 #[.func (.yield l) #[] #[], .pointer (some ⟨Bs, 0, none⟩)] W fun e W' => (∃ v, e = .returned v) ∧
      ((∃ ys, ys = List.finRange 8 ∧ J ys W') ∨ (∃ pre, True ∧ Jx pre W')) := by
  obtain ⟨fnF, dF, aF, rF⟩ := F
  obtain rfl : rF = none := hro
  have HA := Lib.hid hA
  have HG := Lib.hid hg
  have H8 := Lib.hid h8
  clear hA hg h8
  refine callsIn_of_wp Tryz.func194 rfl hF ?_ rfl
  simp only [Tryz.ntmps194, List.size_toArray, List.length_cons, List.length_nil, Nat.reduceAdd, Nat.reduceSub, Array.replicate_succ, Array.replicate_zero, List.push_toArray, List.append_toArray, List.nil_append, List.cons_append]
  gi_wp2
  gi_loopg [3] 8 (fun g s3 wr => ∃ k : Nat, k + g = 8 ∧ s3 = .int .i64 k ∧ J ((List.finRange 8).take k) wr ∧ ArrAt T16 wr Bs (bytesG gs))
  case atStart => exact ⟨0, by omega, rfl, h0, HA.out⟩
  case round =>
    obtain ⟨k, hk, rfl, hJs, hB⟩ := hrel
    have k0 : (0 : Int) ≤ (k : Int) := by omega
    have HB := Lib.hid hB
    clear hB
    cases gk with
    | zero =>
      have k1 : ¬ (k : Int) < 8 := by omega
      have hk8 : k = 8 := by omega
      have hJ8 : J (List.finRange 8) wr := by
        rw [hk8, List.take_of_length_le (by simp)] at hJs
        exact hJs
      clear hk8 hk hJs
      gi_wp2
      go_end0
      exact ⟨⟨_, rfl⟩, .inl hJ8⟩
    | succ g =>
      have k1 : (k : Int) < 8 := by omega
      have k8 : k < 8 := by omega
      obtain ⟨fn, tmps, assign, body, hy, hR⟩ := hY _ ⟨k, k8⟩ wr.drew (hJ _ wr wr.drew none hJs ⟨rfl, rfl, rfl, Nat.le_refl _, fun _ _ _ => rfl⟩ (fun r h => by cases h)) (by rw [List.length_take]; simp; omega)
      obtain ⟨x, hx⟩ : ∃ x, gs[k]? = some x := ⟨_, List.getElem?_eq_getElem (by rw [H8.out]; exact k8)⟩
      have hx9 := HG.out x (List.mem_of_getElem? hx)
      have hgd : gs.getD k 0 = x := by rw [List.getD_eq_getElem?_getD, hx]; rfl
      unfold encE gv ix8 at hy
      dsimp only at hy
      rw [hgd] at hy
      have hbb := bytesG_get gs k x hx
      obtain ⟨p, hp⟩ : ∃ p, 2 * k = p := ⟨_, rfl⟩
      rw [hp] at hbb
      obtain ⟨a, ha⟩ : ∃ a : Nat, x / 256 = a := ⟨_, rfl⟩
      obtain ⟨b, hb2⟩ : ∃ b, x % 256 = b := ⟨_, rfl⟩
      rw [ha, hb2] at hbb
      have hc1 := HB.out.cell hbb.1
      have hc2 := HB.out.cell hbb.2
      have e1 : (2 : Int) * (k : Int) = (p : Int) := by omega
      have p0 : (0 : Int) ≤ (p : Int) := by omega
      have p1 : (p : Int) < 16 := by omega
      have p2 : (p : Int) + 1 < 16 := by omega
      have p3 : (0 : Int) ≤ (p : Int) + 1 := by omega
      have t9 : ((p : Int) + 1).toNat = p + 1 := by omega
      have a0 : (0 : Int) ≤ (a : Int) := by omega
      have a9 : (a : Int) ≤ 255 := by omega
      have b0 : (0 : Int) ≤ (b : Int) := by omega
      have b9 : (b : Int) ≤ 255 := by omega
      have hor : bits .or .u16 ((a : Int) * 256) (b : Int) = (x : Int) := by
        rw [bits_join .u16 16 (by decide) wraps_u16 8 ((a : Int) * 256) (b : Int) (by omega) (by omega) (by omega) (by omega) (by omega) (by omega)]
        omega
      have w1 : IntKind.u16.wrap ((a : Int) * 256) = (a : Int) * 256 := wraps_u16 _ (by omega) (by omega)
      have w5 : IntKind.u16.wrap (a : Int) = (a : Int) := wraps_u16 _ (by omega) (by omega)
      have w6 : IntKind.u16.wrap (b : Int) = (b : Int) := wraps_u16 _ (by omega) (by omega)
      have w2 : IntKind.i64.wrap ((p : Int)) = (p : Int) := IntWalk.i64_in _ (by omega)
      have w3 : IntKind.i64.wrap ((p : Int) + 1) = (p : Int) + 1 := IntWalk.i64_in _ (by omega)
      have w4 : IntKind.i64.wrap (2 * (k : Int)) = (p : Int) := by rw [e1]; exact w2
      have HX := Lib.hid (And.intro hk (And.intro hp (And.intro ha hb2)))
      clear hk hp ha hb2 hbb hx hx9 hgd
      gi_wp2
      have hR2 := hR.mono (R' := fun e W' => ∃ bv : Bool, e = .returned (.bool bv) ∧ Hid ((bv = true ∧ J ((List.finRange 8).take k ++ [⟨k, k8⟩]) W' ∧ KeepB Bs wr.drew W') ∨ (bv = false ∧ Jx ((List.finRange 8).take k ++ [⟨k, k8⟩]) W'))) (by
        rintro e W' (⟨rfl, h1, h2⟩ | ⟨rfl, h1⟩)
        · exact ⟨true, rfl, Lib.hid (.inl ⟨rfl, h1, h2⟩)⟩
        · exact ⟨false, rfl, Lib.hid (.inr ⟨rfl, h1⟩)⟩)
      clear hR
      gi_region_with (with_reducible refine hR2.mono ?_; clear hR2 hy hJ hY; rintro e W3 ⟨bv, rfl, hE⟩)
      all_goals
        cases bv
        · have hx1 : Jx ((List.finRange 8).take k ++ [⟨k, k8⟩]) W3 := by
            rcases hE.out with ⟨h, _⟩ | ⟨_, h⟩
            · cases h
            · exact h
          clear hE
          gi_wp2
          refine bodyPost_ret (results_none rfl _ _ _) rfl ?_
          exact ⟨⟨_, rfl⟩, .inr ⟨_, trivial, hx1⟩⟩
        · obtain ⟨hx1, hx2⟩ : J ((List.finRange 8).take k ++ [⟨k, k8⟩]) W3 ∧ KeepB Bs wr.drew W3 := by
            rcases hE.out with ⟨_, h⟩ | ⟨h, _⟩
            · exact h
            · cases h
          clear hE
          have HX2 := Lib.hid hx2
          have hx3 : J ((List.finRange 8).take (k + 1)) W3 := by rw [fin8_take k k8]; exact hx1
          clear hx1 hx2
          gi_wp2
          go_roundg g
          case measure => omega
          case rel => exact ⟨k + 1, by have := HX.out.1; omega, by go_num, hx3, HX2.out.trans HB.out⟩
theorem each_stops (F : Fence) (n : Nat) (hF : F.fn 194) (hro : F.round = none) (hn : 1 ≤ n) (gs : List Nat) (h8 : gs.length = 8) (hg : ∀ g ∈ gs, g < 65536) (Bs : Nat) (w : World) (hA : ArrAt T16 w Bs (bytesG gs)) :
    SeqStopsK F n Tryz.prog 194 #[.pointer (some ⟨Bs, 0, none⟩)] (encE gs) (KeepB Bs) (fun ys => ys = List.finRange 8) (fun _ => True) 8 w := fun l J Jx W hW hJ _ hY h0 =>
  each_in F n hF hro hn gs h8 hg l Bs J Jx W.heap.size hJ hY W (hA.later hW) h0
set_option maxRecDepth 100000 in
theorem each_any (gs : List Nat) (w : World) : Calls Tryz.prog 176 #[agg16 (bytesG gs)] w fun e w' => e = .returned (.func (.func 194) #[] #[.pointer (some ⟨w.heap.size, 0, none⟩)]) ∧ w.alloc (.cells (a16 (bytesG gs)) T16) = w' := by
  go_enter Tryz.func176, Tryz.ntmps176
  go_wp2_with fail
  go_ret
  exact ⟨rfl, rfl⟩
end Go.Proofs.YtffkaphbgfdpaaaGreatDoor
end

section
/- An address's longest row of noughts. -/
namespace Go.Proofs.YtffkaphbgfdpaaaGreatDoor
open Go.RowKit Go.Shelf Go.Deep
set_option linter.unusedVariables false
set_option linter.unusedSimpArgs false
attribute [local go_sem] Oper.semAt_some

def ntF (gs : List Nat) (pre : List (Fin 8)) : Nt := pre.foldl (fun a x => stepN (ix8 x) (gv gs x == 0) a) ⟨0, 0, 0, 0⟩
theorem ntF_snoc (gs : List Nat) (pre : List (Fin 8)) (x : Fin 8) : ntF gs (pre ++ [x]) = stepN (ix8 x) (gv gs x == 0) (ntF gs pre) := by
  unfold ntF
  rw [List.foldl_append]
  rfl
def NtOk (k : Nat) (a : Nt) : Prop := a.nn ≤ k ∧ a.bn ≤ k ∧ a.ba ≤ 7 ∧ a.na ≤ 7 ∧ (a.nn = 0 → a.na = 0)
theorem ntOk_step {k i : Nat} {z : Bool} {a : Nt} (h : NtOk k a) (hi : i < 8) : NtOk (k + 1) (stepN i z a) := by
  obtain ⟨ba, bn, na, nn⟩ := a
  obtain ⟨h1, h2, h3, h4, h5⟩ := h
  simp only at h1 h2 h3 h4 h5
  cases z with
  | false => exact ⟨by show 0 ≤ _; omega, by show bn ≤ _; omega, h3, by show 0 ≤ _; omega, fun _ => rfl⟩
  | true =>
    have ha : (if na = 0 ∧ nn = 0 then i else na) ≤ 7 := by split <;> omega
    unfold stepN
    rw [if_pos rfl]
    dsimp only
    split
    · exact ⟨by show nn + 1 ≤ _; omega, by show nn + 1 ≤ _; omega, ha, ha, fun h => by simp at h⟩
    · exact ⟨by show nn + 1 ≤ _; omega, by show bn ≤ _; omega, h3, ha, fun h => by simp at h⟩
theorem ntF_take (gs : List Nat) (h8 : gs.length = 8) : ∀ k, k ≤ 8 → ntF gs ((List.finRange 8).take k) = gapN (flags gs) k ∧ NtOk k (ntF gs ((List.finRange 8).take k))
  | 0, _ => ⟨rfl, by unfold NtOk; simp [ntF]⟩
  | k + 1, h => by
    obtain ⟨e, ho⟩ := ntF_take gs h8 k (by omega)
    rw [fin8_take k (by omega), ntF_snoc]
    refine ⟨?_, ntOk_step ho (by show k < 8; omega)⟩
    show stepN k _ _ = stepN k ((flags gs).getD k false) _
    rw [e]
    congr 1
    unfold flags gv
    rw [List.getD_eq_getElem?_getD, List.getD_eq_getElem?_getD, List.getElem?_map, List.getElem?_eq_getElem (by omega)]
    rfl
theorem ntF_ok (gs : List Nat) (pre : List (Fin 8)) : NtOk pre.length (ntF gs pre) := by
  have h : ∀ (r : List (Fin 8)), NtOk r.reverse.length (ntF gs r.reverse) := fun r => by
    induction r with
    | nil => unfold NtOk; simp [ntF]
    | cons x l ih => rw [List.reverse_cons, ntF_snoc, List.length_append]; exact ntOk_step ih x.isLt
  have := h pre.reverse
  rwa [List.reverse_reverse] at this
/-- A block that is a row. -/
def Two (W : World) (b : Nat) (x y : Nat) : Prop := W.heap[b]? = some (.cells #[.int .i64 (x : Int), .int .i64 (y : Int)] 181 (0, 0))
section
variable {W W' : World} {b x y : Nat}
theorem Two.lt (h : Two W b x y) : b < W.heap.size := (Array.getElem?_eq_some_iff.1 h).1
theorem Two.new (W : World) (x y : Nat) : Two (W.alloc (.cells #[.int .i64 (x : Int), .int .i64 (y : Int)] 181)) W.heap.size x y := World.alloc_heap_new W _
theorem Two.old (h : Two W b x y) (o : Obj) : Two (W.alloc o) b x y := by
  unfold Two
  rw [Below.heap_alloc _ _ _ h.lt]
  exact h
theorem Two.cell0 (h : Two W b x y) : W.cell? ⟨b, 0, none⟩ = some (.int .i64 (x : Int)) := Lib.cell_of_heap h 0
theorem Two.cell1 (h : Two W b x y) : W.cell? ⟨b, 1, none⟩ = some (.int .i64 (y : Int)) := Lib.cell_of_heap h 1
theorem Two.frozen (h : Two W b x y) (j : Nat) : W.frozen? ⟨b, j, none⟩ = false := Lib.frozen_of_heap h j
theorem Two.set0 (h : Two W b x y) (u : Nat) : Two (W.setCell ⟨b, 0, none⟩ (.int .i64 (u : Int))) b u y := by
  have := heap_setCell_same W b 0 _ _ (.int .i64 (u : Int)) h
  exact this
theorem Two.set1 (h : Two W b x y) (u : Nat) : Two (W.setCell ⟨b, 1, none⟩ (.int .i64 (u : Int))) b x u := by
  have := heap_setCell_same W b 1 _ _ (.int .i64 (u : Int)) h
  exact this
theorem Two.set0z (h : Two W b x y) : Two (W.setCell ⟨b, 0, none⟩ (.int .i64 0)) b 0 y := h.set0 0
theorem Two.set1z (h : Two W b x y) : Two (W.setCell ⟨b, 1, none⟩ (.int .i64 0)) b x 0 := h.set1 0
theorem Two.other (h : Two W b x y) {c : Nat} (i : Nat) (v : Value) (hc : b ≠ c) : Two (W.setCell ⟨c, i, none⟩ v) b x y := by
  unfold Two
  rw [heap_setCell_other W ⟨c, i, none⟩ b v hc]
  exact h
theorem Two.kept {row : Option Nat} (h : Two W b x y) (hg : W.grownBy W' row) (hr : ∀ r, row = some r → ∃ o : Obj, W.heap[r]? = some o ∧ o.isCells = false) : Two W' b x y :=
  (grownBy_keeps_cells hg hr h rfl).trans h
end
theorem keepB_set {B b i : Nat} {W W' : World} (h : KeepB B W W') (hb : B ≠ b) (v : Value) : KeepB B W (W'.setCell ⟨b, i, none⟩ v) := (heap_setCell_other W' ⟨b, i, none⟩ B v hb).trans h
theorem keepO_set {b i : Nat} {W W' : World} (h : KeepsOthers W W') (v : Value) : KeepsOthers W (W'.setCell ⟨b, i, none⟩ v) := h.trans (KeepsOthers.setCell _ _ _)
set_option maxRecDepth 100000 in
set_option maxHeartbeats 3200000 in
theorem noughts_any (gs : List Nat) (w : World) (h8 : gs.length = 8) (hg : ∀ g ∈ gs, g < 65536) : Calls Tryz.prog 175 #[agg16 (bytesG gs)] w fun e w' => e = .returned (.agg #[.int .i64 ((gapP (flags gs)).1 : Nat), .int .i64 ((gapP (flags gs)).2 : Nat)]) ∧ Below w.heap.size w w' := by
  refine (callsIn_wide (n := 4)).1 ?_
  have hA := ArrAt.new T16 w (bytesG gs)
  have HA := Lib.hid hA
  have HG := Lib.hid hg
  have H8 := Lib.hid h8
  have hbl : (bytesG gs).length = 16 := by rw [bytesG_len]; omega
  have HL := Lib.hid hbl
  have ld := fun W (h : ArrAt T16 W w.heap.size (bytesG gs)) => run_loadA h hbl
  have LD := Lib.hid ld
  clear hg h8 hbl ld
  refine callsIn_of_wp_marks Tryz.func175 rfl trivial ?_ rfl
  simp only [Tryz.ntmps175, List.size_toArray, List.length_cons, List.length_nil, Nat.reduceAdd, Nat.reduceSub, Array.replicate_succ, Array.replicate_zero, List.push_toArray, List.append_toArray, List.nil_append, List.cons_append]
  have hA0 : ArrAt T16 (w.alloc (.cells (a16 (bytesG gs)) T16)) w.heap.size (bytesG gs) := hA
  have ld0 := LD.out _ (((hA0.old (.cells #[.int .i64 0, .int .i64 0] 181)).old (.cells #[.int .i64 0, .int .i64 0] 181)).old (.cells #[.int .i64 0, .int .i64 0] 181))
  clear hA hA0
  gi_wp2_with fail
  refine ⟨trivial, ?_⟩
  (with_reducible refine (callsIn_wide.2 (each_any gs _)).mono ?_)
  rintro e w1 ⟨rfl, rfl⟩
  clear ld0
  gi_wp2_with fail
  obtain ⟨W0, hW0⟩ : ∃ W0, ((((w.alloc (.cells (a16 (bytesG gs)) T16)).alloc (.cells #[.int .i64 0, .int .i64 0] 181)).alloc (.cells #[.int .i64 0, .int .i64 0] 181)).alloc (.cells #[.int .i64 0, .int .i64 0] 181)).alloc (.cells (a16 (bytesG gs)) T16) = W0 := ⟨_, rfl⟩
  rw [hW0]
  have hsz : W0.heap.size = w.heap.size + 5 := by rw [← hW0]; simp
  have hB0 : Below w.heap.size w W0 := by
    rw [← hW0]
    exact (((((Below.refl _ w).alloc (Nat.le_refl _) _).alloc (by simp) _).alloc (by simp; omega) _).alloc (by simp; omega) _).alloc (by simp; omega) _
  have hA1 : ArrAt T16 W0 (w.heap.size + 1 + 1 + 1 + 1) (bytesG gs) := by
    rw [← hW0]
    have := ArrAt.new T16 ((((w.alloc (.cells (a16 (bytesG gs)) T16)).alloc (.cells #[.int .i64 0, .int .i64 0] 181)).alloc (.cells #[.int .i64 0, .int .i64 0] 181)).alloc (.cells #[.int .i64 0, .int .i64 0] 181)) (bytesG gs)
    simp only [World.size_alloc] at this
    exact this
  have hT3 : Two W0 (w.heap.size + 1) 0 0 := by
    rw [← hW0]
    have := Two.new (w.alloc (.cells (a16 (bytesG gs)) T16)) 0 0
    simp only [World.size_alloc] at this
    exact ((this.old _).old _).old _
  have hT1 : Two W0 (w.heap.size + 1 + 1) 0 0 := by
    rw [← hW0]
    have := Two.new ((w.alloc (.cells (a16 (bytesG gs)) T16)).alloc (.cells #[.int .i64 0, .int .i64 0] 181)) 0 0
    simp only [World.size_alloc] at this
    exact (this.old _).old _
  have hT2 : Two W0 (w.heap.size + 1 + 1 + 1) 0 0 := by
    rw [← hW0]
    have := Two.new (((w.alloc (.cells (a16 (bytesG gs)) T16)).alloc (.cells #[.int .i64 0, .int .i64 0] 181)).alloc (.cells #[.int .i64 0, .int .i64 0] 181)) 0 0
    simp only [World.size_alloc] at this
    exact this.old _
  clear hW0
  refine wpIn_rangeFunc_ownF rfl (by omega) (gf := 194) (lb := #[.pointer (some ⟨w.heap.size + 1 + 1 + 1 + 1, 0, none⟩)]) rfl trivial (enters_of Tryz.func194 (by kernel_rfl) rfl)
    (each_stops Fence.wide _ trivial rfl (by omega) gs H8.out HG.out (w.heap.size + 1 + 1 + 1 + 1) W0 hA1) keepB_t (keepB_b (by omega)) (Below.refl _ _) (fun _ => rfl)
    (fun pre W => (Two W (w.heap.size + 1) 0 0 ∧ Two W (w.heap.size + 1 + 1) (ntF gs pre).ba (ntF gs pre).bn ∧ Two W (w.heap.size + 1 + 1 + 1) (ntF gs pre).na (ntF gs pre).nn) ∧ Below w.heap.size w W)
    (fun _ _ _ => False)
    (OwnFrom.and (Own.from (fun s A B row hs hg hr => ⟨hs.1.kept hg hr, hs.2.1.kept hg hr, hs.2.2.kept hg hr⟩) _) (ownFrom_below (Nat.le_refl _) (by omega)))
    (fun _ _ _ _ _ hs _ _ => hs)
    ⟨⟨hT3, hT1, hT2⟩, hB0⟩
    (fun x => { tmps := #[agg16 (bytesG gs), .pointer (some ⟨w.heap.size, 0, none⟩), .pointer (some ⟨w.heap.size + 1, 0, none⟩), .pointer (some ⟨w.heap.size + 1 + 1, 0, none⟩), .pointer (some ⟨w.heap.size + 1 + 1 + 1, 0, none⟩), .int .i64 (ix8 x : Int), .int .u16 (gv gs x : Int), agg16 (bytesG gs), .func (.func 194) #[] #[.pointer (some ⟨w.heap.size + 1 + 1 + 1 + 1, 0, none⟩)], .int .i64 (ix8 x : Int), .int .u16 (gv gs x : Int), undef, undef, undef, undef, undef, undef, undef, undef, undef, undef, undef, undef, undef, undef, undef, undef, undef, undef, undef, undef, undef, undef, undef], defers := [] }) ?assign ?body ?done ?stop
  case assign =>
    intro l x W K hK
    unfold encE
    gi_wp2
    exact hK
  case stop =>
    rintro D c pre W _ _ h _
    exact h.elim
  case body =>
    rintro l pre x W ⟨⟨hx0, hx1, hx2⟩, hB⟩ hlen
    obtain ⟨hn1, hn2, hn3, hn4, hn5⟩ := ntF_ok gs pre
    obtain ⟨na, hna⟩ : ∃ n, (ntF gs pre).na = n := ⟨_, rfl⟩
    obtain ⟨nn, hnn⟩ : ∃ n, (ntF gs pre).nn = n := ⟨_, rfl⟩
    obtain ⟨ba, hba⟩ : ∃ n, (ntF gs pre).ba = n := ⟨_, rfl⟩
    obtain ⟨bn, hbn⟩ : ∃ n, (ntF gs pre).bn = n := ⟨_, rfl⟩
    have hnt : ntF gs pre = ⟨ba, bn, na, nn⟩ := by rw [← hna, ← hnn, ← hba, ← hbn]
    rw [hna, hnn] at hx2
    rw [hba, hbn] at hx1
    rw [hnn] at hn1 hn5
    rw [hbn] at hn2
    rw [hba] at hn3
    rw [hna] at hn4 hn5
    clear hna hnn hba hbn
    obtain ⟨v, hv⟩ : ∃ v, gv gs x = v := ⟨_, rfl⟩
    obtain ⟨i, hi⟩ : ∃ i, ix8 x = i := ⟨_, rfl⟩
    have hi8 : i < 8 := by rw [← hi]; exact x.isLt
    have hst : ntF gs (pre ++ [x]) = stepN i (v == 0) ⟨ba, bn, na, nn⟩ := by rw [ntF_snoc, hv, hi, hnt]
    have HST := Lib.hid hst
    have c0 := hx1.cell0
    have c1 := hx1.cell1
    have d0 := hx2.cell0
    have d1 := hx2.cell1
    have f0 := hx1.frozen 0
    have f1 := hx1.frozen 1
    have g0 := hx2.frozen 0
    have g1 := hx2.frozen 1
    have HX := Lib.hid (And.intro hx0 (And.intro hx1 (And.intro hx2 hB)))
    clear hx0 hx1 hx2 hB hst hnt
    have v0 : (0 : Int) ≤ (v : Int) := by omega
    rw [hv, hi]
    clear hv hi
    by_cases hz : v = 0
    · have t1 : ((v : Int) != 0) = false := by rw [hz]; rfl
      have hvz : (v == 0) = true := by rw [hz]; rfl
      have HS := HST.out
      rw [hvz] at HS
      have HST := Lib.hid HS
      clear HS hz hvz
      by_cases hn0 : nn = 0
      · obtain rfl : na = 0 := hn5 hn0
        obtain rfl : nn = 0 := hn0
        clear hn5
        by_cases hb0 : bn = 0
        · obtain rfl : bn = 0 := hb0
          gi_wp2
          have hst : ntF gs (pre ++ [x]) = ⟨i, 1, i, 1⟩ := by
            rw [HST.out]
            simp [stepN]
          obtain ⟨hx0, hx1, hx2, hB⟩ := HX.out
          refine ⟨keepO_set (keepO_set (keepO_set (keepO_set (KeepsOthers.refl W) _) _) _) _, keepB_set (keepB_set (keepB_set (keepB_set ((rfl : KeepB _ W W)) (by omega) _) (by omega) _) (by omega) _) (by omega) _, ⟨((((hx0).other _ _ (by omega)).other _ _ (by omega)).other _ _ (by omega)).other _ _ (by omega), ?_, ?_⟩, ((((hB).setCell (p := ⟨w.heap.size + 1 + 1 + 1, 0, none⟩) (by show _ ≤ w.heap.size + 1 + 1 + 1; omega) _).setCell (p := ⟨w.heap.size + 1 + 1 + 1, 1, none⟩) (by show _ ≤ w.heap.size + 1 + 1 + 1; omega) _).setCell (p := ⟨w.heap.size + 1 + 1, 0, none⟩) (by show _ ≤ w.heap.size + 1 + 1; omega) _).setCell (p := ⟨w.heap.size + 1 + 1, 1, none⟩) (by show _ ≤ w.heap.size + 1 + 1; omega) _⟩
          · rw [hst]
            exact ((((hx1).other _ _ (by omega)).other _ _ (by omega)).set0 i).set1 1
          · rw [hst]
            exact ((((hx2).set0 i).set1 1).other _ _ (by omega)).other _ _ (by omega)
        · have b1 : ¬ (bn : Int) < 1 := by omega
          gi_wp2
          have hst : ntF gs (pre ++ [x]) = ⟨ba, bn, i, 1⟩ := by
            rw [HST.out]
            simp [stepN, hb0]
          obtain ⟨hx0, hx1, hx2, hB⟩ := HX.out
          refine ⟨keepO_set (keepO_set (KeepsOthers.refl W) _) _, keepB_set (keepB_set ((rfl : KeepB _ W W)) (by omega) _) (by omega) _, ⟨((hx0).other _ _ (by omega)).other _ _ (by omega), ?_, ?_⟩, ((hB).setCell (p := ⟨w.heap.size + 1 + 1 + 1, 0, none⟩) (by show _ ≤ w.heap.size + 1 + 1 + 1; omega) _).setCell (p := ⟨w.heap.size + 1 + 1 + 1, 1, none⟩) (by show _ ≤ w.heap.size + 1 + 1 + 1; omega) _⟩
          · rw [hst]
            exact ((hx1).other _ _ (by omega)).other _ _ (by omega)
          · rw [hst]
            exact ((hx2).set0 i).set1 1
      · have t2 : ¬ (nn : Int) = 0 := by omega
        have t3 : ((nn : Int) == 0) = false := by rw [beq_eq_false_iff_ne]; exact t2
        clear hn5
        by_cases hb0 : bn < nn + 1
        · have b1 : (bn : Int) < (nn : Int) + 1 := by omega
          gi_wp2
          have hst : ntF gs (pre ++ [x]) = ⟨na, nn + 1, na, nn + 1⟩ := by
            rw [HST.out]
            simp [stepN, hn0, hb0]
          obtain ⟨hx0, hx1, hx2, hB⟩ := HX.out
          refine ⟨keepO_set (keepO_set (keepO_set (KeepsOthers.refl W) _) _) _, keepB_set (keepB_set (keepB_set ((rfl : KeepB _ W W)) (by omega) _) (by omega) _) (by omega) _, ⟨(((hx0).other _ _ (by omega)).other _ _ (by omega)).other _ _ (by omega), ?_, ?_⟩, (((hB).setCell (p := ⟨w.heap.size + 1 + 1 + 1, 1, none⟩) (by show _ ≤ w.heap.size + 1 + 1 + 1; omega) _).setCell (p := ⟨w.heap.size + 1 + 1, 0, none⟩) (by show _ ≤ w.heap.size + 1 + 1; omega) _).setCell (p := ⟨w.heap.size + 1 + 1, 1, none⟩) (by show _ ≤ w.heap.size + 1 + 1; omega) _⟩
          · rw [hst]
            exact (((hx1).other _ _ (by omega)).set0 na).set1 (nn + 1)
          · rw [hst]
            exact (((hx2).set1 (nn + 1)).other _ _ (by omega)).other _ _ (by omega)
        · have b1 : ¬ (bn : Int) < (nn : Int) + 1 := by omega
          gi_wp2
          have hst : ntF gs (pre ++ [x]) = ⟨ba, bn, na, nn + 1⟩ := by
            rw [HST.out]
            simp [stepN, hn0, hb0]
          obtain ⟨hx0, hx1, hx2, hB⟩ := HX.out
          refine ⟨keepO_set (KeepsOthers.refl W) _, keepB_set ((rfl : KeepB _ W W)) (by omega) _, ⟨(hx0).other _ _ (by omega), ?_, ?_⟩, (hB).setCell (p := ⟨w.heap.size + 1 + 1 + 1, 1, none⟩) (by show _ ≤ w.heap.size + 1 + 1 + 1; omega) _⟩
          · rw [hst]
            exact (hx1).other _ _ (by omega)
          · rw [hst]
            exact (hx2).set1 (nn + 1)
    · have t1 : ((v : Int) != 0) = true := by
        rw [bne_iff_ne]
        omega
      have hvz : (v == 0) = false := by rw [beq_eq_false_iff_ne]; exact hz
      have HS := HST.out
      rw [hvz] at HS
      have HST := Lib.hid HS
      clear HS hz hvz
      gi_wp2
      have hst : ntF gs (pre ++ [x]) = ⟨ba, bn, 0, 0⟩ := by
        rw [HST.out]
        simp [stepN]
      obtain ⟨hx0, hx1, hx2, hB⟩ := HX.out
      refine ⟨keepO_set (keepO_set (KeepsOthers.refl W) _) _, keepB_set (keepB_set ((rfl : KeepB _ W W)) (by omega) _) (by omega) _, ⟨((hx0).other _ _ (by omega)).other _ _ (by omega), ?_, ?_⟩, ((hB).setCell (p := ⟨w.heap.size + 1 + 1 + 1, 0, none⟩) (by show _ ≤ w.heap.size + 1 + 1 + 1; omega) _).setCell (p := ⟨w.heap.size + 1 + 1 + 1, 1, none⟩) (by show _ ≤ w.heap.size + 1 + 1 + 1; omega) _⟩
      · rw [hst]
        exact ((hx1).other _ _ (by omega)).other _ _ (by omega)
      · rw [hst]
        exact ((hx2).set0 0).set1 0
  case done =>
    rintro D ys W hD rfl ⟨⟨hx0, hx1, hx2⟩, hB⟩ hK
    have hnt := (ntF_take gs H8.out 8 (Nat.le_refl _)).1
    rw [List.take_of_length_le (by simp)] at hnt
    have hok := ntF_ok gs (List.finRange 8)
    rw [hnt] at hx1 hx2 hok
    have hD2 : w.heap.size + 5 ≤ D := by omega
    clear hnt
    obtain ⟨ba, hba⟩ : ∃ n, (gapN (flags gs) 8).ba = n := ⟨_, rfl⟩
    obtain ⟨bn, hbn⟩ : ∃ n, (gapN (flags gs) 8).bn = n := ⟨_, rfl⟩
    rw [hba, hbn] at hx1
    have c1 := hx1.cell1
    have c0 := hx1.cell0
    have e0 := hx0.cell0
    have e1 := hx0.cell1
    have f0 := hx0.frozen 0
    have f1 := hx0.frozen 1
    by_cases hb : bn < 2
    · have b1 : (bn : Int) < 2 := by omega
      have hg : gapP (flags gs) = (0, 0) := by
        unfold gapP
        rw [hbn, if_pos hb]
      have HGP := Lib.hid (And.intro hx0 (And.intro hB hg))
      have HK := Lib.hid hK
      clear hg hx0 hx1 hx2 hB hK hok hba hbn hb
      gi_wp2
      obtain ⟨hx0, hB, hg⟩ := HGP.out
      have hK' := (keepO_set (i := 1) (b := w.heap.size + 1) (keepO_set (i := 0) (b := w.heap.size + 1) (KeepsOthers.refl W) (.int .i64 0)) (.int .i64 0)).same D _ HK.out rfl
      have hx9 := (hx0.set0z.set1z).kept (grownBy_putObj' _ D (.deferred none)) (fun r e => by cases e; exact ⟨_, hK', rfl⟩)
      refine ⟨by simp, .inl ⟨_, _, rfl, run_takeDeferred hK', ?_⟩⟩
      have d0 := hx9.cell0
      have d1 := hx9.cell1
      refine ⟨.agg #[.int .i64 (0 : Nat), .int .i64 (0 : Nat)], ?_, by rw [hg], ((hB.setCell (p := ⟨w.heap.size + 1, 0, none⟩) (by show _ ≤ w.heap.size + 1; omega) _).setCell (p := ⟨w.heap.size + 1, 1, none⟩) (by show _ ≤ w.heap.size + 1; omega) _).trans (belowK_b (w := w) (Nat.le_refl _) _ D _ _ (by omega) hK' rfl rfl)⟩
      simp [results, Tryz.f175, go_sem, d0, d1]
    · have b1 : ¬ (bn : Int) < 2 := by omega
      have hg : gapP (flags gs) = (ba, bn) := by
        unfold gapP
        rw [hbn, hba, if_neg hb]
      have HGP := Lib.hid (And.intro hx0 (And.intro hB hg))
      have HK := Lib.hid hK
      clear hg hx0 hx1 hx2 hB hK hok hba hbn hb
      gi_wp2
      obtain ⟨hx0, hB, hg⟩ := HGP.out
      have hK' := (keepO_set (i := 1) (b := w.heap.size + 1) (keepO_set (i := 0) (b := w.heap.size + 1) (KeepsOthers.refl W) (.int .i64 (ba : Nat))) (.int .i64 (bn : Nat))).same D _ HK.out rfl
      have hx9 := ((hx0.set0 ba).set1 bn).kept (grownBy_putObj' _ D (.deferred none)) (fun r e => by cases e; exact ⟨_, hK', rfl⟩)
      refine ⟨by simp, .inl ⟨_, _, rfl, run_takeDeferred hK', ?_⟩⟩
      have d0 := hx9.cell0
      have d1 := hx9.cell1
      refine ⟨.agg #[.int .i64 (ba : Nat), .int .i64 (bn : Nat)], ?_, by rw [hg], ((hB.setCell (p := ⟨w.heap.size + 1, 0, none⟩) (by show _ ≤ w.heap.size + 1; omega) _).setCell (p := ⟨w.heap.size + 1, 1, none⟩) (by show _ ≤ w.heap.size + 1; omega) _).trans (belowK_b (w := w) (Nat.le_refl _) _ D _ _ (by omega) hK' rfl rfl)⟩
      simp [results, Tryz.f175, go_sem, d0, d1]
end Go.Proofs.YtffkaphbgfdpaaaGreatDoor
end

section
/- strings.Builder's writers: what else they leave alone. -/
namespace Go.Proofs.YtffkaphbgfdpaaaGreatDoor
open Go.RowKit Go.Shelf Go.Sort
set_option linter.unusedVariables false
set_option linter.unusedSimpArgs false

/-- What is no cells stays, and each block of cells but b and the bytes' rows. -/
def KeepT (b : Nat) (w w' : World) : Prop := KeepsOthers w w' ∧ ∀ j cs t, w.heap[j]? = some (.cells cs t (0, 0)) → j ≠ b → t ≠ 5 → w'.heap[j]? = w.heap[j]?
theorem KeepT.refl (b : Nat) (w : World) : KeepT b w w := ⟨KeepsOthers.refl w, fun _ _ _ _ _ _ => rfl⟩
theorem KeepT.trans {b : Nat} {w w' w2 : World} (h : KeepT b w w') (k : KeepT b w' w2) : KeepT b w w2 :=
  ⟨h.1.trans k.1, fun j cs t hj hb ht => by
    have e := h.2 j cs t hj hb ht
    exact (k.2 j cs t (e.trans hj) hb ht).trans e⟩
theorem KeepT.setB (b i : Nat) (w : World) (v : Value) : KeepT b w (w.setCell ⟨b, i, none⟩ v) :=
  ⟨KeepsOthers.setCell _ _ _, fun j cs t _ hb _ => heap_setCell_other w ⟨b, i, none⟩ j v hb⟩
theorem KeepT.below {b : Nat} {w w' : World} (h : Below w.heap.size w w') : KeepT b w w' :=
  ⟨⟨h.size, fun k o hk _ => (h.block k (Array.getElem?_eq_some_iff.1 hk).1).trans hk⟩, fun j cs t hj _ _ => h.block j (Array.getElem?_eq_some_iff.1 hj).1⟩
theorem KeepT.grown {b B n : Nat} {w w' : World} {v : Value} {xs : List Value} (ho : w.ownsRow B 5 1 v n xs) (hg : w.grownBy w' v.ownBlock) : KeepT b w w' :=
  ⟨KeepsOthers.of_grownBy hg fun j o ej hj => by
    rcases ho.2 with ⟨rfl, _⟩ | ⟨g, cap, cur, rfl, _, hgb, _⟩
    · simp [Value.ownBlock] at ej
    · obtain rfl : g = j := by simpa [Value.ownBlock] using ej
      rw [hgb] at hj
      cases hj
      rfl,
   fun j cs t hj _ ht => hg.block j (Array.getElem?_eq_some_iff.1 hj).1 (fun e => Lib.ownBlock_ne ho hj ht e.symm)⟩
/-- A builder, later. -/
theorem builder_below {B b : Nat} {p : Value} {bs : List Value} {w w' : World} (h : Lib.BuilderAt 153 5 B b p bs w) (hB : Below w.heap.size w w') : Lib.BuilderAt 153 5 B b p bs w' := by
  obtain ⟨h1, v, h2, h3, h4⟩ := h
  exact ⟨h1, v, (hB.block b (Array.getElem?_eq_some_iff.1 h2).1).trans h2, own_below h3 hB, h4⟩
theorem builder_kept {B b : Nat} {p : Value} {bs : List Value} {w w' : World} {row : Option Nat} (h : Lib.BuilderAt 153 5 B b p bs w) (hg : w.grownBy w' row) (hr : ∀ r, row = some r → ∃ o : Obj, w.heap[r]? = some o ∧ o.isCells = false) : Lib.BuilderAt 153 5 B b p bs w' := by
  obtain ⟨h1, v, h2, h3, h4⟩ := h
  refine ⟨h1, v, (grownBy_keeps_cells hg hr h2 rfl).trans h2, own_later h3 fun g e => ?_, h4⟩
  rcases h3.2 with ⟨rfl, _⟩ | ⟨g', cap, cur, rfl, _, hgb, _⟩
  · simp [Value.ownBlock] at e
  · obtain rfl : g' = g := by simpa [Value.ownBlock] using e
    exact grownBy_keeps_cells hg hr hgb rfl
theorem isB_below {B b : Nat} {bs : List Value} {w w' : World} (h : Lib.IsBuilder 153 5 B b bs w) (hB : Below w.heap.size w w') : Lib.IsBuilder 153 5 B b bs w' := h.imp (builder_below · hB) (builder_below · hB)
theorem isB_kept {B b : Nat} {bs : List Value} {w w' : World} {row : Option Nat} (h : Lib.IsBuilder 153 5 B b bs w) (hg : w.grownBy w' row) (hr : ∀ r, row = some r → ∃ o : Obj, w.heap[r]? = some o ∧ o.isCells = false) : Lib.IsBuilder 153 5 B b bs w' := h.imp (builder_kept · hg hr) (builder_kept · hg hr)
theorem copyCheckK_any (B b : Nat) (bs : List Value) (w : World) (h : Lib.IsBuilder 153 5 B b bs w) :
    Calls Tryz.prog 168 #[.pointer (some ⟨b, 0, none⟩)] w fun e w' => e = .returned (.tuple #[]) ∧ (Lib.BuilderAt 153 5 B b (.pointer (some ⟨b, 0, none⟩)) bs w' ∧ Below B w w' ∧ KeepT b w w') := by
  rcases h with h | h
  · refine (copyCheck_fresh b w h.cell0 h.shape h.frozen0).mono ?_
    rintro e w' ⟨rfl, rfl⟩
    exact ⟨rfl, h.used _, (Below.refl B w).setCell (p := ⟨b, 0, none⟩) h.1 _, KeepT.setB _ _ _ _⟩
  · refine (copyCheck_used b w h.cell0).mono ?_
    rintro e w' ⟨rfl, rfl⟩
    exact ⟨rfl, h, Below.refl B _, KeepT.refl _ _⟩
set_option maxHeartbeats 2000000 in
set_option maxRecDepth 100000 in
theorem writeByteK_any (B b : Nat) (bs : List Value) (c : Int) (w : World) (h : Lib.IsBuilder 153 5 B b bs w) (hlen : bs.length + 1 ≤ 140737488355328) (hBw : B ≤ w.heap.size) :
    Calls Tryz.prog 177 #[.pointer (some ⟨b, 0, none⟩), .int .u8 c] w fun e w' => e = .returned .nilIface ∧ (Lib.BuilderAt 153 5 B b (.pointer (some ⟨b, 0, none⟩)) (bs ++ [.int .u8 c]) w' ∧ Below B w w' ∧ KeepT b w w') := by
  obtain ⟨i0, hi, hz0, hz1, hz2⟩ := info_parts infoByte
  go_enter Tryz.func177, Tryz.ntmps177
  go_wp2_with (go_at_call 168; refine (copyCheckK_any B b bs _ h).mono ?_)
  rintro e w1 ⟨rfl, h1, hb1, kt1⟩
  have KT := Lib.hid kt1
  clear kt1
  obtain ⟨hB, v, hbk, hown, hne⟩ := h1
  have c0 : w1.cell? ⟨b, 0, none⟩ = some (.pointer (some ⟨b, 0, none⟩)) := by rw [Lib.cell_of_heap hbk]; rfl
  have c1 : w1.cell? ⟨b, 1, none⟩ = some v := by rw [Lib.cell_of_heap hbk]; rfl
  go_wp2_with (at_builtin; refine wpList_append_own _ rfl _ _ 110 rfl B 5 i0 (.int .u8 0) 1 1 Tryz.underlying110 hi hz0 hz1 hz2 rfl (by decide) _ _ _ rfl (hown.alloc _) ⟨w1.heap.size, 0, none⟩ 1 1 [.int .u8 c] rfl rfl ?c1 ?c2 ?c3 ?c4 ?c5 ?_)
  case c1 =>
    intro j u hj
    match j, hj with
    | 0, hj => simp at hj; subst hj; simp [Addr.add]
  case c2 => intro u hu; simp at hu; subst hu; rfl
  case c3 => unfold maxLen; omega
  case c4 => omega
  case c5 => have := hb1.size; simp; omega
  intro v' w2 hown' hgrow _
  have hlt : b < w1.heap.size := by
    rcases Nat.lt_or_ge b w1.heap.size with h' | h'
    · exact h'
    · simp [Array.getElem?_eq_none h'] at hbk
  have hb2 : w2.heap[b]? = some (.cells #[.pointer (some ⟨b, 0, none⟩), v] 153 (0, 0)) := by
    rw [hgrow.block b (by simp; omega) (fun e => hne e.symm), Lib.alloc_old w1 _ b hlt]
    exact hbk
  have d0 : w2.cell? ⟨b, 0, none⟩ = some (.pointer (some ⟨b, 0, none⟩)) := by rw [Lib.cell_of_heap hb2]; rfl
  have d1 : w2.cell? ⟨b, 1, none⟩ = some v := by rw [Lib.cell_of_heap hb2]; rfl
  have f1 : w2.frozen? ⟨b, 1, none⟩ = false := Lib.frozen_of_heap hb2 1
  obtain ⟨g, cap, rfl⟩ : ∃ g cap, v' = .slice (some ⟨g, 0, none⟩) (bs.length + 1) cap := by
    rcases hown'.2 with ⟨_, h0⟩ | ⟨g, cap, cur, hv, _⟩
    · omega
    · exact ⟨g, cap, hv⟩
  go_wp2
  go_ret
  refine ⟨rfl, ?_, ?_, ((KT.out.trans (KeepT.below ((Below.refl _ w1).alloc (Nat.le_refl _) _))).trans (KeepT.grown (hown.alloc _) hgrow)).trans (KeepT.setB _ _ _ _)⟩
  · exact Lib.BuilderAt.put (T := 153) (e := 5) hB hb2 (bs' := bs ++ [.int .u8 c]) (by simpa using hown') (by decide)
  · exact ((hb1.alloc (by have := hb1.size; omega) _).grown hgrow (by have := hb1.size; simp; omega) (fun k hk => (hown.lt k hk).1)).setCell (p := ⟨b, 1, none⟩) hB _
set_option maxHeartbeats 2000000 in
set_option maxRecDepth 100000 in
theorem writeStringK_any (B b : Nat) (bs : List Value) (s : ByteArray) (w : World) (h : Lib.IsBuilder 153 5 B b bs w) (hlen : bs.length + s.size ≤ 140737488355328) (hBw : B ≤ w.heap.size) :
    Calls Tryz.prog 151 #[.pointer (some ⟨b, 0, none⟩), .string s] w fun e w' => e = .returned (.tuple #[.int .i64 s.size, .nilIface]) ∧ (Lib.BuilderAt 153 5 B b (.pointer (some ⟨b, 0, none⟩)) (bs ++ Lib.strCells s) w' ∧ Below B w w' ∧ KeepT b w w') := by
  obtain ⟨i0, hi, hz0, hz1, hz2⟩ := info_parts infoByte
  go_enter Tryz.func151, Tryz.ntmps151
  go_wp2_with (go_at_call 168; refine (copyCheckK_any B b bs _ h).mono ?_)
  rintro e w1 ⟨rfl, h1, hb1, kt1⟩
  have KT := Lib.hid kt1
  clear kt1
  obtain ⟨hB, v, hbk, hown, hne⟩ := h1
  have c0 : w1.cell? ⟨b, 0, none⟩ = some (.pointer (some ⟨b, 0, none⟩)) := by rw [Lib.cell_of_heap hbk]; rfl
  have c1 : w1.cell? ⟨b, 1, none⟩ = some v := by rw [Lib.cell_of_heap hbk]; rfl
  go_wp2_with (at_builtin; refine Lib.wpList_append_own_string _ rfl _ _ 110 9 rfl B 5 i0 Tryz.underlying110 Tryz.underlying9 hi hz0 hz1 hz2 _ _ _ rfl hown s rfl ?c3 ?c4 ?c5 ?_)
  case c3 => unfold maxLen; omega
  case c4 => omega
  case c5 => have := hb1.size; omega
  intro v' w2 hown' hgrow _
  have hlt : b < w1.heap.size := by
    rcases Nat.lt_or_ge b w1.heap.size with h' | h'
    · exact h'
    · simp [Array.getElem?_eq_none h'] at hbk
  have hb2 : w2.heap[b]? = some (.cells #[.pointer (some ⟨b, 0, none⟩), v] 153 (0, 0)) := by
    rw [hgrow.block b hlt (fun e => hne e.symm)]
    exact hbk
  have d0 : w2.cell? ⟨b, 0, none⟩ = some (.pointer (some ⟨b, 0, none⟩)) := by rw [Lib.cell_of_heap hb2]; rfl
  have d1 : w2.cell? ⟨b, 1, none⟩ = some v := by rw [Lib.cell_of_heap hb2]; rfl
  have f1 : w2.frozen? ⟨b, 1, none⟩ = false := Lib.frozen_of_heap hb2 1
  obtain ⟨ao, n', cap, rfl⟩ : ∃ ao n' cap, v' = .slice ao n' cap := by
    rcases hown'.2 with ⟨hv, _⟩ | ⟨g, cap, cur, hv, _⟩
    · exact ⟨_, _, _, hv⟩
    · exact ⟨_, _, _, hv⟩
  go_wp2
  go_ret2
  refine ⟨rfl, ?_, ?_, (KT.out.trans (KeepT.grown hown hgrow)).trans (KeepT.setB _ _ _ _)⟩
  · exact Lib.BuilderAt.put (T := 153) (e := 5) hB hb2 (bs' := bs ++ Lib.strCells s) (by simpa [Lib.strCells_length] using hown') (by decide)
  · exact (hb1.grown hgrow (by have := hb1.size; omega) (fun k hk => (hown.lt k hk).1)).setCell (p := ⟨b, 1, none⟩) hB _
theorem keepO_freeze (w : World) (a : Addr) (n : Nat) : KeepsOthers w (w.freeze a n) := by
  unfold World.freeze
  split
  · exact KeepsOthers.refl w
  · refine ⟨by simp, fun k o hk ho => ?_⟩
    simp only [Array.getElem?_modify]
    split
    · rw [hk]
      cases o <;> first | rfl | (simp [Obj.isCells] at ho)
    · exact hk
set_option maxHeartbeats 1000000 in
set_option maxRecDepth 100000 in
/-- String of a builder that holds a byte. -/
theorem stringK_any (B b : Nat) (l : List UInt8) (w : World) (h : Lib.IsBuilder 153 5 B b (Lib.byteCells l) w) (h0 : l ≠ []) :
    Calls Tryz.prog 152 #[.pointer (some ⟨b, 0, none⟩)] w fun e w' => e = .returned (.string ⟨l.toArray⟩) ∧ Below B w w' ∧ KeepsOthers w w' := by
  obtain ⟨p, hB, v, hbk, hown, hne⟩ : ∃ p, Lib.BuilderAt 153 5 B b p (Lib.byteCells l) w := by
    rcases h with h | h
    · exact ⟨_, h⟩
    · exact ⟨_, h⟩
  have hl0 : l.length ≠ 0 := by simpa using h0
  rw [Lib.byteCells_length] at hown
  obtain ⟨g, cap, cur, rfl, hbg, hg, hnc, hcm, hcs, htake⟩ : ∃ g cap cur, v = .slice (some ⟨g, 0, none⟩) l.length cap ∧ B ≤ g ∧ w.heap[g]? = some (.cells cur 5 (0, 0)) ∧ l.length ≤ cap ∧ cap ≤ maxLen ∧ cur.size = cap * 1 ∧ cur.toList.take (l.length * 1) = Lib.byteCells l := by
    rcases hown.2 with ⟨_, hz⟩ | ⟨g, cap, cur, hv, r⟩
    · exact absurd hz hl0
    · exact ⟨g, cap, cur, hv, r⟩
  have c1 : w.drew.cell? ⟨b, 1, none⟩ = some (.slice (some ⟨g, 0, none⟩) l.length cap) := by
    have : w.drew.heap[b]? = some (.cells #[p, .slice (some ⟨g, 0, none⟩) l.length cap] 153 (0, 0)) := hbk
    rw [Lib.cell_of_heap this]; rfl
  have hSD : (Builtin.unsafeSliceData_ #[110] 174 #[.slice (some ⟨g, 0, none⟩) l.length cap]).run Tryz.prog w.drew = .ok (.pointer (some ⟨g, 0, none⟩)) w.drew :=
    Lib.run_unsafeSliceData_row _ _ _ _ _ _ (by omega)
  have hUS : (Builtin.unsafeString_ #[174, 3] 9 #[.pointer (some ⟨g, 0, none⟩), .int .i64 l.length]).run Tryz.prog w.drew = .ok (.string ⟨l.toArray⟩) (w.drew.freeze ⟨g, 0, none⟩ l.length) := by
    refine Lib.run_unsafeString_row w.drew 174 3 9 5 Tryz.underlying174 Tryz.Builder_Extra_169.cellsByte g cur.size (by have hg' : w.drew.heap[g]? = some (.cells cur 5 (0, 0)) := hg; simp [World.shape?, hg']) l h0 (by omega) (by unfold maxLen at hcm; omega) ?_
    intro j x hx
    have := hown.cells (g := g) rfl j (.int .u8 x.toNat) (by simp [Lib.byteCells, hx])
    exact this
  have HB := Lib.hid (Lib.below_freeze (Below.drew (Below.refl B w)) (p := ⟨g, 0, none⟩) hbg l.length)
  clear h hl0 hown hbg hg hnc hcm hcs htake hbk hne h0
  go_enter Tryz.func152, Tryz.ntmps152
  go_wp2
  go_region
  all_goals (go_wp2; go_ret; exact ⟨rfl, HB.out, ⟨(keepO_freeze w.drew ⟨g, 0, none⟩ l.length).size, (keepO_freeze w.drew ⟨g, 0, none⟩ l.length).same⟩⟩)
end Go.Proofs.YtffkaphbgfdpaaaGreatDoor
end

section
/- The program's Print6. -/
namespace Go.Proofs.YtffkaphbgfdpaaaGreatDoor
open Go.RowKit Go.Shelf Go.Deep
set_option linter.unusedVariables false
set_option linter.unusedSimpArgs false
attribute [local go_sem] Oper.semAt_some

def txF (gs : List Nat) (f l : Nat) (pre : List (Fin 8)) : List UInt8 := pre.foldl (fun a x => a ++ pieceP gs f l (ix8 x)) []
theorem txF_snoc (gs : List Nat) (f l : Nat) (pre : List (Fin 8)) (x : Fin 8) : txF gs f l (pre ++ [x]) = txF gs f l pre ++ pieceP gs f l (ix8 x) := by
  unfold txF
  rw [List.foldl_append]
  rfl
theorem piece_len (gs : List Nat) (f l i : Nat) : (pieceP gs f l i).length ≤ 5 := by
  have h := hexL_len (gs.getD i 0)
  unfold pieceP
  split
  · split <;> simp
  · rw [List.length_append]
    split
    · show 1 + _ ≤ 5
      omega
    · show 0 + _ ≤ 5
      omega
theorem txF_len (gs : List Nat) (f l : Nat) (pre : List (Fin 8)) : (txF gs f l pre).length ≤ 5 * pre.length := by
  have h : ∀ (r : List (Fin 8)), (txF gs f l r.reverse).length ≤ 5 * r.reverse.length := fun r => by
    induction r with
    | nil => exact Nat.le_refl _
    | cons x r ih =>
      have := piece_len gs f l (ix8 x)
      rw [List.reverse_cons, txF_snoc, List.length_append, List.length_append]
      simp only [List.length_singleton]
      omega
  have := h pre.reverse
  rwa [List.reverse_reverse] at this
theorem txF_take (gs : List Nat) (f l : Nat) : ∀ k, k ≤ 8 → txF gs f l ((List.finRange 8).take k) = txP gs f l k
  | 0, _ => rfl
  | k + 1, h => by
    rw [fin8_take k (by omega), txF_snoc, txF_take gs f l k (by omega)]
    rfl
theorem gap_cases (gs : List Nat) (h8 : gs.length = 8) : ∃ f l, gapP (flags gs) = (f, l) ∧ ((f = 0 ∧ l = 0) ∨ (2 ≤ l ∧ f + l ≤ 8)) ∧ txP gs f l 8 = print6L gs := by
  rcases gap_same (zs := flags gs) (by unfold flags; rw [List.length_map, h8]) with ⟨_, h⟩ | ⟨f, l, _, h, h2, h3⟩
  · refine ⟨0, 0, h, .inl ⟨rfl, rfl⟩, ?_⟩
    unfold print6L
    rw [h]
    exact txP_none gs h8
  · refine ⟨f, l, h, .inr ⟨h2, h3⟩, ?_⟩
    unfold print6L
    rw [h]
    exact txP_gap gs f l h8 h2 h3
theorem joinL_pos (c : UInt8) : ∀ (xs : List (List UInt8)), (∀ x ∈ xs, x ≠ []) → xs ≠ [] → joinL c xs ≠ []
  | [], _, h => absurd rfl h
  | [x], h, _ => by
    show x ≠ []
    exact h x (List.mem_cons_self ..)
  | x :: y :: zs, h, _ => by
    have := h x (List.mem_cons_self ..)
    intro e
    unfold joinL at e
    simp at e
theorem print6_pos (gs : List Nat) (h8 : gs.length = 8) : 0 < (print6L gs).length := by
  rw [List.length_pos_iff]
  unfold print6L textG
  split
  · refine joinL_pos 58 _ (fun x hx => ?_) (fun e => ?_)
    · obtain ⟨g, _, rfl⟩ := List.mem_map.1 hx
      exact hexL_pos g
    · have := congrArg List.length e
      rw [List.length_map, h8] at this
      cases this
  · simp
abbrev IsB (B b : Nat) (l : List UInt8) (w : World) : Prop := Lib.IsBuilder 153 5 B b (Lib.byteCells l) w
theorem Two.keepT {W W' : World} {b x y c : Nat} (h : Two W b x y) (k : KeepT c W W') (hb : b ≠ c) : Two W' b x y := (k.2 b _ _ h hb (by decide)).trans h
theorem ArrAt.keepT {W W' : World} {b c : Nat} {l : List Nat} (h : ArrAt T16 W b l) (k : KeepT c W W') (hb : b ≠ c) : ArrAt T16 W' b l := (k.2 b _ _ h hb (by decide)).trans h
/-- A round's way out. -/
theorem round_out {gs : List Nat} {f l B b3 b4 b5 : Nat} {pre : List (Fin 8)} {x : Fin 8} {w W W' : World} {t : List UInt8} (hp : txF gs f l (pre ++ [x]) = t) (k : KeepT b4 W W') (hA : ArrAt T16 W b5 (bytesG gs)) (h54 : b5 ≠ b4) (h3 : Two W b3 f l) (h34 : b3 ≠ b4) (hI : IsB B b4 t W') (hB : Below B w W') :
    KeepsOthers W W' ∧ KeepB b5 W W' ∧ (Two W' b3 f l ∧ IsB B b4 (txF gs f l (pre ++ [x])) W' ∧ ArrAt T16 W' b5 (bytesG gs)) ∧ Below B w W' :=
  ⟨k.1, k.2 b5 _ _ hA h54 (by decide), ⟨h3.keepT k h34, by rw [hp]; exact hI, hA.keepT k h54⟩, hB⟩

set_option maxRecDepth 100000 in
set_option maxHeartbeats 3200000 in
theorem print6_any (gs : List Nat) (w : World) (h8 : gs.length = 8) (hg : ∀ g ∈ gs, g < 65536) (hd : Deb w) : Calls Tryz.prog 155 #[agg16 (bytesG gs)] w fun e w' => e = .returned (.string (bs (print6L gs))) ∧ Below w.heap.size w w' := by
  refine (callsIn_wide (n := 5)).1 ?_
  have hA0 : ArrAt T16 (w.alloc (.cells (a16 (bytesG gs)) T16)) w.heap.size (bytesG gs) := ArrAt.new T16 w (bytesG gs)
  have HA := Lib.hid hA0
  have HG := Lib.hid hg
  have H8 := Lib.hid h8
  have HD := Lib.hid hd
  have hbl : (bytesG gs).length = 16 := by rw [bytesG_len]; omega
  have HL := Lib.hid hbl
  obtain ⟨f, l, hgap, hfl, htx⟩ := gap_cases gs h8
  have cn := fun W => noughts_any gs W h8 hg
  rw [hgap] at cn
  have CN := Lib.hid cn
  have HTX := Lib.hid htx
  have HFL := Lib.hid hfl
  have ld0 := run_loadA hA0 hbl
  clear hg h8 hd hbl hA0 hgap hfl htx cn
  refine callsIn_of_wp_marks Tryz.func155 rfl trivial ?_ rfl
  simp only [Tryz.ntmps155, List.size_toArray, List.length_cons, List.length_nil, Nat.reduceAdd, Nat.reduceSub, Array.replicate_succ, Array.replicate_zero, List.push_toArray, List.append_toArray, List.nil_append, List.cons_append]
  gi_wp2_with fail
  refine ⟨trivial, ?_⟩
  (with_reducible refine (callsIn_wide.2 (CN.out _)).mono ?_)
  rintro e w1 ⟨rfl, hB1⟩
  have hA1 : ArrAt T16 w1 w.heap.size (bytesG gs) := HA.out.later hB1
  have hB1' : Below w.heap.size w w1 := ((Below.refl _ w).alloc (Nat.le_refl _) _).trans (hB1.mono (by simp))
  have hs1 : w.heap.size < w1.heap.size := by have := hB1.size; simp at this; omega
  have HA1 := Lib.hid hA1
  have HB1 := Lib.hid hB1'
  clear ld0 hB1 hA1 hB1'
  have ld1 := run_loadA ((HA1.out.old (.cells #[.int .i64 (f : Int), .int .i64 (l : Int)] 181)).old (.cells #[.pointer none, .slice none 0 0] 153)) HL.out
  gi_wp2_with fail
  refine ⟨trivial, ?_⟩
  (with_reducible refine (callsIn_wide.2 (each_any gs _)).mono ?_)
  rintro e w2 ⟨rfl, rfl⟩
  clear ld1
  gi_wp2_with fail
  obtain ⟨W0, hW0⟩ : ∃ W0, ((w1.alloc (.cells #[.int .i64 (f : Int), .int .i64 (l : Int)] 181)).alloc (.cells #[.pointer none, .slice none 0 0] 153)).alloc (.cells (a16 (bytesG gs)) T16) = W0 := ⟨_, rfl⟩
  rw [hW0]
  have hsz : W0.heap.size = w1.heap.size + 3 := by rw [← hW0]; simp
  have hS := HB1.out.size
  have hB0 : Below w.heap.size w W0 := by
    rw [← hW0]
    exact ((HB1.out.alloc hS _).alloc (by simp; omega) _).alloc (by simp; omega) _
  have hT : Two W0 w1.heap.size f l := by
    rw [← hW0]
    exact ((Two.new w1 f l).old _).old _
  have hI : IsB w.heap.size (w1.heap.size + 1) [] W0 := by
    rw [← hW0]
    have := Lib.fresh_isBuilder 153 5 (w1.alloc (.cells #[.int .i64 (f : Int), .int .i64 (l : Int)] 181))
    rw [World.size_alloc] at this
    have h2 := isB_below this ((Below.refl _ _).alloc (Nat.le_refl _) (.cells (a16 (bytesG gs)) T16))
    refine h2.imp (fun h => ?_) (fun h => ?_)
    · exact ⟨by omega, h.2.choose, h.2.choose_spec.1, own_mono h.2.choose_spec.2.1 (by omega), h.2.choose_spec.2.2⟩
    · exact ⟨by omega, h.2.choose, h.2.choose_spec.1, own_mono h.2.choose_spec.2.1 (by omega), h.2.choose_spec.2.2⟩
  have hA2 : ArrAt T16 W0 (w1.heap.size + 1 + 1) (bytesG gs) := by
    rw [← hW0]
    have := ArrAt.new T16 ((w1.alloc (.cells #[.int .i64 (f : Int), .int .i64 (l : Int)] 181)).alloc (.cells #[.pointer none, .slice none 0 0] 153)) (bytesG gs)
    simp only [World.size_alloc] at this
    exact this
  clear hW0
  refine wpIn_rangeFunc_ownF rfl (by omega) (gf := 194) (lb := #[.pointer (some ⟨w1.heap.size + 1 + 1, 0, none⟩)]) rfl trivial (enters_of Tryz.func194 (by kernel_rfl) rfl)
    (each_stops Fence.wide _ trivial rfl (by omega) gs H8.out HG.out (w1.heap.size + 1 + 1) W0 hA2) keepB_t (keepB_b (by omega)) (Below.refl _ _) (fun _ => rfl)
    (fun pre W => (Two W w1.heap.size f l ∧ IsB w.heap.size (w1.heap.size + 1) (txF gs f l pre) W ∧ ArrAt T16 W (w1.heap.size + 1 + 1) (bytesG gs)) ∧ Below w.heap.size w W)
    (fun _ _ _ => False)
    (OwnFrom.and (Own.from (fun s A B row hs hg hr => ⟨hs.1.kept hg hr, isB_kept hs.2.1 hg hr, (grownBy_keeps_cells hg hr hs.2.2 rfl).trans hs.2.2⟩) _) (ownFrom_below (Nat.le_refl _) (by omega)))
    (fun _ _ _ _ _ hs _ _ => hs)
    ⟨⟨hT, hI, hA2⟩, hB0⟩
    (fun x => { tmps := #[agg16 (bytesG gs), .pointer (some ⟨w.heap.size, 0, none⟩), .string ⟨#[]⟩, .pointer (some ⟨w1.heap.size, 0, none⟩), .pointer (some ⟨w1.heap.size + 1, 0, none⟩), .int .i64 (ix8 x : Int), .int .u16 (gv gs x : Int), agg16 (bytesG gs), .agg #[.int .i64 (f : Int), .int .i64 (l : Int)], agg16 (bytesG gs), .func (.func 194) #[] #[.pointer (some ⟨w1.heap.size + 1 + 1, 0, none⟩)], .int .i64 (ix8 x : Int), .int .u16 (gv gs x : Int), undef, undef, undef, undef, undef, undef, undef, undef, undef, undef, undef, undef, undef, undef, undef, undef, undef, undef, undef, undef, undef, undef, undef, undef, undef, undef, undef, undef, undef, undef, undef, undef, undef, undef, undef, undef, undef, undef, undef, undef, undef, undef, undef, undef, undef], defers := [] }) ?assign ?body ?done ?stop
  case assign =>
    intro l x W K hK
    unfold encE
    gi_wp2
    exact hK
  case stop =>
    rintro D c pre W _ _ h _
    exact h.elim
  case done =>
    rintro D ys W hD rfl ⟨⟨hT2, hI2, hA3⟩, hB⟩ hK
    have ht := txF_take gs f l 8 (Nat.le_refl _)
    rw [List.take_of_length_le (by simp), HTX.out] at ht
    rw [ht] at hI2
    have hne : print6L gs ≠ [] := by
      intro e
      have := print6_pos gs H8.out
      rw [e] at this
      simp at this
    have HK := Lib.hid hK
    have HB := Lib.hid hB
    have HI := Lib.hid hI2
    have hwB : w.heap.size ≤ W.heap.size := hB.size
    have hD2 : w.heap.size ≤ D := by omega
    clear ht hT2 hA3 hB hK hI2
    gi_wp2_with fail
    refine ⟨trivial, ?_⟩
    refine (callsIn_wide.2 (stringK_any w.heap.size (w1.heap.size + 1) (print6L gs) W HI.out hne)).mono ?_
    rintro e w5 ⟨rfl, hB5, hk5⟩
    have HR := Lib.hid (And.intro hB5 hk5)
    clear hB5 hk5
    gi_wp2_with fail
    obtain ⟨hB5, hk5⟩ := HR.out
    have hK' := hk5.same D _ HK.out rfl
    refine ⟨by simp, .inl ⟨_, _, rfl, run_takeDeferred hK', ?_⟩⟩
    exact ⟨_, results_tmp rfl _ _ _, rfl, (HB.out.trans hB5).trans (belowK_b (w := w) (Nat.le_refl _) _ D _ _ hD2 hK' rfl rfl)⟩
  case body =>
    rintro lo pre x W ⟨⟨hT2, hI2, hA3⟩, hB⟩ hlen
    have hl5 := txF_len gs f l pre
    have hps := txF_snoc gs f l pre x
    obtain ⟨t, ht⟩ : ∃ t, txF gs f l pre = t := ⟨_, rfl⟩
    rw [ht] at hI2 hl5 hps
    obtain ⟨i, hi⟩ : ∃ i, ix8 x = i := ⟨_, rfl⟩
    have hi8 : i < 8 := by rw [← hi]; exact x.isLt
    obtain ⟨v, hv⟩ : ∃ v, gv gs x = v := ⟨_, rfl⟩
    have hv9 : v < 65536 := by
      rw [← hv]
      exact HG.out _ (by unfold gv; rw [List.getD_eq_getElem?_getD, List.getElem?_eq_getElem (by have := x.isLt; have := H8.out; omega)]; exact List.getElem_mem _)
    have hvi : gs.getD i 0 = v := by rw [← hv, ← hi]; rfl
    rw [hi] at hps
    rw [hv, hi]
    have hx5 := hexL_len v
    have bl : (bs (hexL v)).size = (hexL v).length := List.size_toArray
    have HPS := Lib.hid hps
    have HV := Lib.hid hvi
    have c0 := hT2.cell0
    have c1 := hT2.cell1
    have HT2 := Lib.hid hT2
    have HI2 := Lib.hid hI2
    have HA3 := Lib.hid hA3
    have HB := Lib.hid hB
    have hz : w1.heap.size + 1 < W.heap.size := by have := hA3.lt; omega
    have hw : w.heap.size ≤ W.heap.size := by omega
    have HBL := Lib.hid bl
    have i0 : (0 : Int) ≤ (i : Int) := by omega
    have v0 : (0 : Int) ≤ (v : Int) := by omega
    have v1 : (v : Int) ≤ 65535 := by omega
    clear ht hi hv hvi hps hT2 hI2 hA3 hB bl
    have hF := HFL.out
    by_cases hl0 : l = 0
    · have hf0 : f = 0 := by omega
      subst hl0
      subst hf0
      by_cases hi0 : i = 0
      · have j0 : ¬ (0 : Int) < (i : Int) := by omega
        gi_wp2_with fail
        refine ⟨trivial, ?_⟩
        refine (CallsIn.inRound lo (callsIn_wide.2 (fmt16_any v _ hv9 (HD.out.later HB.out)))).mono ?_
        rintro e w3 ⟨rfl, hB4⟩
        have HI4 := Lib.hid (isB_below HI2.out hB4)
        have HK4 := Lib.hid ((KeepT.refl _ W).trans (KeepT.below hB4) : KeepT (w1.heap.size + 1) W w3)
        have HB4 := Lib.hid (HB.out.trans (hB4.mono hw))
        have hw3 : w.heap.size ≤ w3.heap.size := HB4.out.size
        clear hB4
        gi_wp2_with fail
        refine ⟨trivial, ?_⟩
        refine (CallsIn.inRound lo (callsIn_wide.2 (writeStringK_any w.heap.size (w1.heap.size + 1) _ (bs (hexL v)) _ HI4.out (by simp [Lib.byteCells, HBL.out]; omega) hw3))).mono ?_
        rintro e w5 ⟨rfl, hI5, hB5, hk5⟩
        have HR := Lib.hid (And.intro hI5 (And.intro hB5 hk5))
        clear hI5 hB5 hk5
        gi_wp2_with fail
        obtain ⟨hI5, hB5, hk5⟩ := HR.out
        exact round_out (t := t ++ hexL v) (by rw [HPS.out, (show pieceP gs 0 0 i = hexL v from by unfold pieceP; rw [if_neg (by omega), if_neg (by omega), HV.out]; rfl)]) (HK4.out.trans hk5) HA3.out (by omega) HT2.out (by omega) (.inr (by unfold Lib.byteCells; rw [List.map_append]; exact hI5)) (HB4.out.trans hB5)
      · have j0 : (0 : Int) < (i : Int) := by omega
        gi_wp2_with fail
        refine ⟨trivial, ?_⟩
        refine (CallsIn.inRound lo (callsIn_wide.2 (writeByteK_any w.heap.size (w1.heap.size + 1) _ 58 W HI2.out (by simp [Lib.byteCells]; omega) hw))).mono ?_
        rintro e w2 ⟨rfl, hI3, hB3, hk3⟩
        have HI3 : Hid (IsB w.heap.size (w1.heap.size + 1) (t ++ [58]) w2) := Lib.hid (.inr (by unfold Lib.byteCells; rw [List.map_append]; exact hI3))
        have HB3 := Lib.hid (HB.out.trans hB3)
        have HK3 := Lib.hid hk3
        have hw2 : w.heap.size ≤ w2.heap.size := HB3.out.size
        clear hI3 hB3 hk3
        gi_wp2_with fail
        refine ⟨trivial, ?_⟩
        refine (CallsIn.inRound lo (callsIn_wide.2 (fmt16_any v _ hv9 (HD.out.later HB3.out)))).mono ?_
        rintro e w3 ⟨rfl, hB4⟩
        have HI4 := Lib.hid (isB_below HI3.out hB4)
        have HK4 := Lib.hid (HK3.out.trans (KeepT.below hB4) : KeepT (w1.heap.size + 1) W w3)
        have HB4 := Lib.hid (HB3.out.trans (hB4.mono hw2))
        have hw3 : w.heap.size ≤ w3.heap.size := HB4.out.size
        clear hB4
        gi_wp2_with fail
        refine ⟨trivial, ?_⟩
        refine (CallsIn.inRound lo (callsIn_wide.2 (writeStringK_any w.heap.size (w1.heap.size + 1) _ (bs (hexL v)) _ HI4.out (by simp [Lib.byteCells, HBL.out]; omega) hw3))).mono ?_
        rintro e w5 ⟨rfl, hI5, hB5, hk5⟩
        have HR := Lib.hid (And.intro hI5 (And.intro hB5 hk5))
        clear hI5 hB5 hk5
        gi_wp2_with fail
        obtain ⟨hI5, hB5, hk5⟩ := HR.out
        exact round_out (t := (t ++ [58]) ++ hexL v) (by rw [HPS.out, (show pieceP gs 0 0 i = [58] ++ hexL v from by unfold pieceP; rw [if_neg (by omega), if_pos (by omega), HV.out])]; simp) (HK4.out.trans hk5) HA3.out (by omega) HT2.out (by omega) (.inr (by unfold Lib.byteCells; rw [List.map_append]; exact hI5)) (HB4.out.trans hB5)
    · have hl1 : ¬ (l : Int) = 0 := by omega
      have hl2 : ((l : Int) == 0) = false := by rw [beq_eq_false_iff_ne]; exact hl1
      have l0 : (0 : Int) ≤ (l : Int) := by omega
      have l8 : (l : Int) ≤ 8 := by omega
      have f0 : (0 : Int) ≤ (f : Int) := by omega
      have f8 : (f : Int) ≤ 8 := by omega
      have HL0 := Lib.hid (And.intro hl0 hF)
      by_cases hfi : f ≤ i
      · have j1 : (f : Int) ≤ (i : Int) := by omega
        by_cases hil : i < f + l
        · have j2 : (i : Int) < (f : Int) + (l : Int) := by omega
          by_cases hif : i = f
          · have j3 : ((i : Int) == (f : Int)) = true := by rw [hif]; exact beq_self_eq_true _
            have hpp : pieceP gs f l i = [58, 58] := by unfold pieceP; rw [if_pos ⟨hl0, hfi, hil⟩, if_pos hif]
            have HPP := Lib.hid hpp
            clear hif hl0 hpp hF
            gi_wp2_with fail
            refine ⟨trivial, ?_⟩
            refine (CallsIn.inRound lo (callsIn_wide.2 (writeStringK_any w.heap.size (w1.heap.size + 1) _ ⟨#[58, 58]⟩ W HI2.out (by have h2 : (⟨#[58, 58]⟩ : ByteArray).size = 2 := rfl; rw [h2]; simp [Lib.byteCells]; omega) hw))).mono ?_
            rintro e w2 ⟨rfl, hI3, hB3, hk3⟩
            have HR := Lib.hid (And.intro hI3 (And.intro hB3 hk3))
            clear hI3 hB3 hk3
            gi_wp2_with fail
            obtain ⟨hI3, hB3, hk3⟩ := HR.out
            exact round_out (t := t ++ [58, 58]) (by rw [HPS.out, HPP.out]) hk3 HA3.out (by omega) HT2.out (by omega) (.inr (by unfold Lib.byteCells; rw [List.map_append]; exact hI3)) (HB.out.trans hB3)
          · have j3 : ((i : Int) == (f : Int)) = false := by rw [beq_eq_false_iff_ne]; omega
            have hpp : pieceP gs f l i = [] := by unfold pieceP; rw [if_pos ⟨hl0, hfi, hil⟩, if_neg hif]
            have HPP := Lib.hid hpp
            clear hif hl0 hpp hF
            gi_wp2_with fail
            exact round_out (t := t) (by rw [HPS.out, HPP.out, List.append_nil]) (KeepT.refl _ _) HA3.out (by omega) HT2.out (by omega) HI2.out HB.out
        · have j2 : ¬ (i : Int) < (f : Int) + (l : Int) := by omega
          have j0 : (0 : Int) < (i : Int) := by omega
          by_cases hie : i = f + l
          · have j4 : ((i : Int) != (f : Int) + (l : Int)) = false := by rw [bne_eq_false_iff_eq]; omega
            have hpp : pieceP gs f l i = hexL v := by unfold pieceP; rw [if_neg (by omega), if_neg (by omega), HV.out]; rfl
            have HPP := Lib.hid hpp
            clear hie hl0 hpp hF
            gi_wp2_with fail
            refine ⟨trivial, ?_⟩
            refine (CallsIn.inRound lo (callsIn_wide.2 (fmt16_any v _ hv9 (HD.out.later HB.out)))).mono ?_
            rintro e w3 ⟨rfl, hB4⟩
            have HI4 := Lib.hid (isB_below HI2.out hB4)
            have HK4 := Lib.hid ((KeepT.refl _ W).trans (KeepT.below hB4) : KeepT (w1.heap.size + 1) W w3)
            have HB4 := Lib.hid (HB.out.trans (hB4.mono hw))
            have hw3 : w.heap.size ≤ w3.heap.size := HB4.out.size
            clear hB4
            gi_wp2_with fail
            refine ⟨trivial, ?_⟩
            refine (CallsIn.inRound lo (callsIn_wide.2 (writeStringK_any w.heap.size (w1.heap.size + 1) _ (bs (hexL v)) _ HI4.out (by simp [Lib.byteCells, HBL.out]; omega) hw3))).mono ?_
            rintro e w5 ⟨rfl, hI5, hB5, hk5⟩
            have HR := Lib.hid (And.intro hI5 (And.intro hB5 hk5))
            clear hI5 hB5 hk5
            gi_wp2_with fail
            obtain ⟨hI5, hB5, hk5⟩ := HR.out
            exact round_out (t := t ++ hexL v) (by rw [HPS.out, HPP.out]) (HK4.out.trans hk5) HA3.out (by omega) HT2.out (by omega) (.inr (by unfold Lib.byteCells; rw [List.map_append]; exact hI5)) (HB4.out.trans hB5)
          · have j4 : ((i : Int) != (f : Int) + (l : Int)) = true := by rw [bne_iff_ne]; omega
            have hpp : pieceP gs f l i = [58] ++ hexL v := by unfold pieceP; rw [if_neg (by omega), if_pos (by omega), HV.out]
            have HPP := Lib.hid hpp
            clear hie hl0 hpp hF
            gi_wp2_with fail
            refine ⟨trivial, ?_⟩
            refine (CallsIn.inRound lo (callsIn_wide.2 (writeByteK_any w.heap.size (w1.heap.size + 1) _ 58 W HI2.out (by simp [Lib.byteCells]; omega) hw))).mono ?_
            rintro e w2 ⟨rfl, hI3, hB3, hk3⟩
            have HI3 : Hid (IsB w.heap.size (w1.heap.size + 1) (t ++ [58]) w2) := Lib.hid (.inr (by unfold Lib.byteCells; rw [List.map_append]; exact hI3))
            have HB3 := Lib.hid (HB.out.trans hB3)
            have HK3 := Lib.hid hk3
            have hw2 : w.heap.size ≤ w2.heap.size := HB3.out.size
            clear hI3 hB3 hk3
            gi_wp2_with fail
            refine ⟨trivial, ?_⟩
            refine (CallsIn.inRound lo (callsIn_wide.2 (fmt16_any v _ hv9 (HD.out.later HB3.out)))).mono ?_
            rintro e w3 ⟨rfl, hB4⟩
            have HI4 := Lib.hid (isB_below HI3.out hB4)
            have HK4 := Lib.hid (HK3.out.trans (KeepT.below hB4) : KeepT (w1.heap.size + 1) W w3)
            have HB4 := Lib.hid (HB3.out.trans (hB4.mono hw2))
            have hw3 : w.heap.size ≤ w3.heap.size := HB4.out.size
            clear hB4
            gi_wp2_with fail
            refine ⟨trivial, ?_⟩
            refine (CallsIn.inRound lo (callsIn_wide.2 (writeStringK_any w.heap.size (w1.heap.size + 1) _ (bs (hexL v)) _ HI4.out (by simp [Lib.byteCells, HBL.out]; omega) hw3))).mono ?_
            rintro e w5 ⟨rfl, hI5, hB5, hk5⟩
            have HR := Lib.hid (And.intro hI5 (And.intro hB5 hk5))
            clear hI5 hB5 hk5
            gi_wp2_with fail
            obtain ⟨hI5, hB5, hk5⟩ := HR.out
            exact round_out (t := (t ++ [58]) ++ hexL v) (by rw [HPS.out, HPP.out]; simp) (HK4.out.trans hk5) HA3.out (by omega) HT2.out (by omega) (.inr (by unfold Lib.byteCells; rw [List.map_append]; exact hI5)) (HB4.out.trans hB5)
      · have j1 : ¬ (f : Int) ≤ (i : Int) := by omega
        by_cases hi0 : i = 0
        · have j0 : ¬ (0 : Int) < (i : Int) := by omega
          have hpp : pieceP gs f l i = hexL v := by unfold pieceP; rw [if_neg (by omega), if_neg (by omega), HV.out]; rfl
          have HPP := Lib.hid hpp
          clear hi0 hl0 hpp hF
          gi_wp2_with fail
          refine ⟨trivial, ?_⟩
          refine (CallsIn.inRound lo (callsIn_wide.2 (fmt16_any v _ hv9 (HD.out.later HB.out)))).mono ?_
          rintro e w3 ⟨rfl, hB4⟩
          have HI4 := Lib.hid (isB_below HI2.out hB4)
          have HK4 := Lib.hid ((KeepT.refl _ W).trans (KeepT.below hB4) : KeepT (w1.heap.size + 1) W w3)
          have HB4 := Lib.hid (HB.out.trans (hB4.mono hw))
          have hw3 : w.heap.size ≤ w3.heap.size := HB4.out.size
          clear hB4
          gi_wp2_with fail
          refine ⟨trivial, ?_⟩
          refine (CallsIn.inRound lo (callsIn_wide.2 (writeStringK_any w.heap.size (w1.heap.size + 1) _ (bs (hexL v)) _ HI4.out (by simp [Lib.byteCells, HBL.out]; omega) hw3))).mono ?_
          rintro e w5 ⟨rfl, hI5, hB5, hk5⟩
          have HR := Lib.hid (And.intro hI5 (And.intro hB5 hk5))
          clear hI5 hB5 hk5
          gi_wp2_with fail
          obtain ⟨hI5, hB5, hk5⟩ := HR.out
          exact round_out (t := t ++ hexL v) (by rw [HPS.out, HPP.out]) (HK4.out.trans hk5) HA3.out (by omega) HT2.out (by omega) (.inr (by unfold Lib.byteCells; rw [List.map_append]; exact hI5)) (HB4.out.trans hB5)
        · have j0 : (0 : Int) < (i : Int) := by omega
          have j4 : ((i : Int) != (f : Int) + (l : Int)) = true := by rw [bne_iff_ne]; omega
          have hpp : pieceP gs f l i = [58] ++ hexL v := by unfold pieceP; rw [if_neg (by omega), if_pos (by omega), HV.out]
          have HPP := Lib.hid hpp
          clear hi0 hl0 hpp hF
          gi_wp2_with fail
          refine ⟨trivial, ?_⟩
          refine (CallsIn.inRound lo (callsIn_wide.2 (writeByteK_any w.heap.size (w1.heap.size + 1) _ 58 W HI2.out (by simp [Lib.byteCells]; omega) hw))).mono ?_
          rintro e w2 ⟨rfl, hI3, hB3, hk3⟩
          have HI3 : Hid (IsB w.heap.size (w1.heap.size + 1) (t ++ [58]) w2) := Lib.hid (.inr (by unfold Lib.byteCells; rw [List.map_append]; exact hI3))
          have HB3 := Lib.hid (HB.out.trans hB3)
          have HK3 := Lib.hid hk3
          have hw2 : w.heap.size ≤ w2.heap.size := HB3.out.size
          clear hI3 hB3 hk3
          gi_wp2_with fail
          refine ⟨trivial, ?_⟩
          refine (CallsIn.inRound lo (callsIn_wide.2 (fmt16_any v _ hv9 (HD.out.later HB3.out)))).mono ?_
          rintro e w3 ⟨rfl, hB4⟩
          have HI4 := Lib.hid (isB_below HI3.out hB4)
          have HK4 := Lib.hid (HK3.out.trans (KeepT.below hB4) : KeepT (w1.heap.size + 1) W w3)
          have HB4 := Lib.hid (HB3.out.trans (hB4.mono hw2))
          have hw3 : w.heap.size ≤ w3.heap.size := HB4.out.size
          clear hB4
          gi_wp2_with fail
          refine ⟨trivial, ?_⟩
          refine (CallsIn.inRound lo (callsIn_wide.2 (writeStringK_any w.heap.size (w1.heap.size + 1) _ (bs (hexL v)) _ HI4.out (by simp [Lib.byteCells, HBL.out]; omega) hw3))).mono ?_
          rintro e w5 ⟨rfl, hI5, hB5, hk5⟩
          have HR := Lib.hid (And.intro hI5 (And.intro hB5 hk5))
          clear hI5 hB5 hk5
          gi_wp2_with fail
          obtain ⟨hI5, hB5, hk5⟩ := HR.out
          exact round_out (t := (t ++ [58]) ++ hexL v) (by rw [HPS.out, HPP.out]; simp) (HK4.out.trans hk5) HA3.out (by omega) HT2.out (by omega) (.inr (by unfold Lib.byteCells; rw [List.map_append]; exact hI5)) (HB4.out.trans hB5)
end Go.Proofs.YtffkaphbgfdpaaaGreatDoor
end
