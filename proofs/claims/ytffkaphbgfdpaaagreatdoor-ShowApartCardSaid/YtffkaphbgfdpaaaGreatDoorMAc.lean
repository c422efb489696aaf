/- Back6, one behind the other. -/
import Derived.Test.YtffkaphbgfdpaaaGreatDoorMAb
import Derived.Test.YtffkaphbgfdpaaaGreatDoorMAa
section
/- Plain laws: an address's text, read again; its length, its gaps, its noughts. -/
namespace Go.Proofs.YtffkaphbgfdpaaaGreatDoor
set_option linter.unusedVariables false
set_option linter.unusedSimpArgs false

def OkP (p : List UInt8) : Prop := p ≠ [] ∧ (58 : UInt8) ∉ p
/-- Cut at the first '::'. -/
def cutD : List UInt8 → Option (List UInt8 × List UInt8)
  | [] => none
  | b :: r => if b = 58 ∧ r.head? = some 58 then some ([], r.tail) else (cutD r).map fun x => (b :: x.1, x.2)
theorem cutD_cons (b : UInt8) (r : List UInt8) : cutD (b :: r) = if b = 58 ∧ r.head? = some 58 then some ([], r.tail) else (cutD r).map fun x => (b :: x.1, x.2) := rfl
theorem pre2 (b : UInt8) (r : List UInt8) : ([58, 58] : List UInt8).isPrefixOf (b :: r) = decide (b = 58 ∧ r.head? = some 58) := by
  cases r with
  | nil => simp [List.isPrefixOf]
  | cons c r =>
    show ((58 : UInt8) == b && ((58 : UInt8) == c && true)) = decide (b = 58 ∧ some c = some 58)
    rw [beq58, beq58, Bool.and_true, ← Bool.decide_and, decide_eq_decide]
    exact ⟨fun h => ⟨h.1, by rw [h.2]⟩, fun h => ⟨h.1, Option.some.inj h.2⟩⟩
theorem index_cutD : ∀ l : List UInt8, Lib.index l [58, 58] = match cutD l with
    | some x => (x.1.length : Int)
    | none => -1
  | [] => rfl
  | b :: r => by
    have ih := index_cutD r
    unfold Lib.index cutD
    rw [pre2]
    by_cases h : b = 58 ∧ r.head? = some 58
    · rw [if_pos (by simpa using h), if_pos h]
      rfl
    · rw [if_neg (by simpa using h), if_neg h, ih]
      cases hc : cutD r with
      | none => rfl
      | some x =>
        show (if ((x.1.length : Int) == -1) = true then (-1 : Int) else (x.1.length : Int) + 1) = (((b :: x.1).length : Nat) : Int)
        rw [if_neg (fun e => by have := eq_of_beq e; omega)]
        simp
theorem cutD_parts : ∀ (l : List UInt8) (x : List UInt8 × List UInt8), cutD l = some x → l = x.1 ++ 58 :: 58 :: x.2
  | [], x, h => by cases h
  | b :: r, x, h => by
    unfold cutD at h
    split at h
    · rename_i hb
      cases h
      obtain ⟨rfl, h2⟩ := hb
      cases r with
      | nil => cases h2
      | cons c r =>
        cases h2
        rfl
    · obtain ⟨y, hy, rfl⟩ := Option.map_eq_some_iff.1 h
      show b :: r = b :: (y.1 ++ 58 :: 58 :: y.2)
      rw [← cutD_parts r y hy]
theorem cut_cutD (l : List UInt8) : Lib.cut l [58, 58] = match cutD l with
    | some x => (x.1, x.2, true)
    | none => (l, [], false) := by
  unfold Lib.cut
  rw [index_cutD]
  cases h : cutD l with
  | none => rfl
  | some x =>
    have hp := cutD_parts l x h
    show (if (0 : Int) ≤ (x.1.length : Int) then _ else _) = _
    rw [if_pos (by omega), Int.toNat_natCast, hp, List.take_left, List.drop_append]
    simp
theorem cutD_piece : ∀ (p t : List UInt8), (58 : UInt8) ∉ p → cutD (p ++ t) = (cutD t).map fun x => (p ++ x.1, x.2)
  | [], t, _ => by
    show cutD t = _
    cases cutD t <;> rfl
  | b :: p, t, h => by
    have hb : b ≠ 58 := fun e => h (by rw [e]; exact List.mem_cons_self ..)
    show cutD (b :: (p ++ t)) = _
    rw [cutD_cons, if_neg (fun e => hb e.1), cutD_piece p t (fun e => h (List.mem_cons_of_mem _ e))]
    cases cutD t <;> rfl
theorem cutD_colon {t : List UInt8} (h : t.head? ≠ some 58) : cutD (58 :: t) = (cutD t).map fun x => (58 :: x.1, x.2) := by
  conv => lhs; unfold cutD
  rw [if_neg (fun e => h e.2)]
theorem head_piece {p t : List UInt8} (h : OkP p) : (p ++ t).head? ≠ some 58 := by
  obtain ⟨h1, h2⟩ := h
  cases p with
  | nil => exact absurd rfl h1
  | cons b p =>
    show some b ≠ some 58
    intro e
    cases e
    exact h2 (List.mem_cons_self ..)
theorem head_join {ps : List (List UInt8)} {t : List UInt8} (h : ∀ p ∈ ps, OkP p) (hn : ps ≠ []) : (joinL 58 ps ++ t).head? ≠ some 58 := by
  match ps, hn with
  | [x], _ => exact head_piece (h x (List.mem_cons_self ..))
  | x :: y :: r, _ =>
    show ((x ++ 58 :: joinL 58 (y :: r)) ++ t).head? ≠ some 58
    rw [List.append_assoc]
    exact head_piece (h x (List.mem_cons_self ..))
theorem cutD_join : ∀ (ps : List (List UInt8)) (t : List UInt8), (∀ p ∈ ps, OkP p) → cutD (joinL 58 ps ++ t) = (cutD t).map fun x => (joinL 58 ps ++ x.1, x.2)
  | [], t, _ => by
    show cutD t = _
    cases cutD t <;> rfl
  | [x], t, h => cutD_piece x t (h x (List.mem_cons_self ..)).2
  | x :: y :: r, t, h => by
    show cutD ((x ++ 58 :: joinL 58 (y :: r)) ++ t) = _
    rw [List.append_assoc, cutD_piece x _ (h x (List.mem_cons_self ..)).2]
    show (cutD (58 :: (joinL 58 (y :: r) ++ t))).map _ = _
    have ht : ∀ p ∈ y :: r, OkP p := fun p hp => h p (List.mem_cons_of_mem _ hp)
    rw [cutD_colon (head_join ht (by simp)), cutD_join (y :: r) t ht, Option.map_map, Option.map_map]
    cases cutD t with
    | none => rfl
    | some z =>
      show some (x ++ 58 :: (joinL 58 (y :: r) ++ z.1), z.2) = some ((x ++ 58 :: joinL 58 (y :: r)) ++ z.1, z.2)
      rw [List.append_assoc]
      rfl
theorem cut_none {ps : List (List UInt8)} (h : ∀ p ∈ ps, OkP p) : Lib.cut (joinL 58 ps) [58, 58] = (joinL 58 ps, [], false) := by
  have := cutD_join ps [] h
  rw [List.append_nil] at this
  rw [cut_cutD, this]
  rfl
theorem cut_some {ps : List (List UInt8)} (t : List UInt8) (h : ∀ p ∈ ps, OkP p) : Lib.cut (joinL 58 ps ++ 58 :: 58 :: t) [58, 58] = (joinL 58 ps, t, true) := by
  have := cutD_join ps (58 :: 58 :: t) h
  rw [cut_cutD, this]
  have h2 : cutD (58 :: 58 :: t) = some ([], t) := by
    unfold cutD
    rw [if_pos ⟨rfl, rfl⟩]
    rfl
  rw [h2]
  show (joinL 58 ps ++ [], t, true) = _
  rw [List.append_nil]
theorem joinL_ne {ps : List (List UInt8)} (h : ∀ p ∈ ps, OkP p) (hn : ps ≠ []) : joinL 58 ps ≠ [] := joinL_pos 58 ps (fun p hp => (h p hp).1) hn
theorem readG_join {ps : List (List UInt8)} (h : ∀ p ∈ ps, OkP p) : readG (joinL 58 ps) = mapO grpL ps := by
  cases ps with
  | nil => rfl
  | cons x r =>
    unfold readG
    rw [if_neg (joinL_ne h (by simp)), splitL_join _ (by simp) (fun p hp => (h p hp).2)]
theorem okH (g : Nat) : OkP (hexL g) := ⟨hexL_pos g, hexL_no58 g⟩
theorem okHs (gs : List Nat) : ∀ p ∈ gs.map hexL, OkP p := fun p hp => by
  obtain ⟨g, _, rfl⟩ := List.mem_map.1 hp
  exact okH g
theorem readG_hex {gs : List Nat} (h : ∀ g ∈ gs, g < 65536) : readG (joinL 58 (gs.map hexL)) = some gs := by
  rw [readG_join (okHs gs)]
  have := mapO_map (f := grpL) (g := hexL) (k := fun n => n) gs fun x hx => grp_hex (h x hx)
  rw [this, List.map_id']
/-- What is left out is noughts. -/
def GapOk (gs : List Nat) (f l : Nat) : Prop := (f = 0 ∧ l = 0) ∨ (2 ≤ l ∧ f + l ≤ 8 ∧ ∀ i, f ≤ i → i < f + l → gs.getD i 0 = 0)
theorem p6_text {gs : List Nat} {f l : Nat} (h8 : gs.length = 8) (hg : ∀ g ∈ gs, g < 65536) (hk : GapOk gs f l) : p6L (textG gs f l) = some gs := by
  rcases hk with ⟨rfl, rfl⟩ | ⟨h2, h3, h4⟩
  · have hc := cut_none (okHs gs)
    have e : textG gs 0 0 = joinL 58 (gs.map hexL) := rfl
    rw [e, p6_some (x := gs) (y := []) (by rw [hc]; exact readG_hex hg) (by rw [hc]; rfl), hc]
    show (if false = true then _ else if gs.length = 8 then some gs else none) = _
    rw [if_neg (by decide), if_pos h8]
  · have e : textG gs f l = joinL 58 ((gs.take f).map hexL) ++ 58 :: 58 :: joinL 58 ((gs.drop (f + l)).map hexL) := by
      unfold textG
      rw [if_neg (by omega)]
    have hc := cut_some (joinL 58 ((gs.drop (f + l)).map hexL)) (okHs (gs.take f))
    rw [e, p6_some (x := gs.take f) (y := gs.drop (f + l)) (by rw [hc]; exact readG_hex fun g h => hg g (List.mem_of_mem_take h)) (by rw [hc]; exact readG_hex fun g h => hg g (List.mem_of_mem_drop h)), hc]
    have l1 : (gs.take f).length = f := by rw [List.length_take]; omega
    have l2 : (gs.drop (f + l)).length = 8 - (f + l) := by rw [List.length_drop]; omega
    show (if true = true then (if (gs.take f).length + (gs.drop (f + l)).length ≤ 7 then some _ else none) else _) = _
    rw [if_pos rfl, l1, l2, if_pos (by omega)]
    congr 1
    apply List.ext_getElem?
    intro i
    rw [show 8 - f - (8 - (f + l)) = l from by omega]
    by_cases h1 : i < f
    · rw [List.append_assoc, List.getElem?_append_left (by omega), List.getElem?_take, if_pos h1]
    · by_cases hm : i < f + l
      · rw [List.append_assoc, List.getElem?_append_right (by omega), l1, List.getElem?_append_left (by rw [List.length_replicate]; omega), List.getElem?_replicate, if_pos (by omega)]
        have := h4 i (by omega) hm
        rw [List.getD_eq_getElem?_getD, List.getElem?_eq_getElem (by omega)] at this
        rw [List.getElem?_eq_getElem (by omega)]
        congr 1
        exact this.symm
      · rw [List.getElem?_append_right (by rw [List.length_append, List.length_replicate]; omega), List.length_append, List.length_replicate, l1, List.getElem?_drop]
        congr 1
        omega
theorem joinL_len : ∀ (ps : List (List UInt8)), (∀ p ∈ ps, p.length ≤ 4) → ps ≠ [] → (joinL 58 ps).length + 1 ≤ 5 * ps.length
  | [], _, h => absurd rfl h
  | [x], h, _ => by
    have := h x (List.mem_cons_self ..)
    show x.length + 1 ≤ 5 * 1
    omega
  | x :: y :: r, h, _ => by
    have h1 := h x (List.mem_cons_self ..)
    have h2 := joinL_len (y :: r) (fun p hp => h p (List.mem_cons_of_mem _ hp)) (by simp)
    show (x ++ 58 :: joinL 58 (y :: r)).length + 1 ≤ 5 * ((y :: r).length + 1)
    rw [List.length_append, List.length_cons]
    omega
theorem joinH_len (gs : List Nat) : (joinL 58 (gs.map hexL)).length ≤ 5 * gs.length ∧ (gs ≠ [] → (joinL 58 (gs.map hexL)).length + 1 ≤ 5 * gs.length) := by
  have hk : gs ≠ [] → (joinL 58 (gs.map hexL)).length + 1 ≤ 5 * gs.length := fun hn => by
    have := joinL_len (gs.map hexL) (fun p hp => by obtain ⟨g, _, rfl⟩ := List.mem_map.1 hp; exact hexL_len g) (by simpa using hn)
    rwa [List.length_map] at this
  refine ⟨?_, hk⟩
  cases gs with
  | nil => exact Nat.le_refl _
  | cons a r => have := hk (by simp); omega
theorem text_len {gs : List Nat} {f l : Nat} (h8 : gs.length = 8) (hk : GapOk gs f l) : (textG gs f l).length ≤ 39 := by
  rcases hk with ⟨rfl, rfl⟩ | ⟨h2, h3, _⟩
  · have := (joinH_len gs).2 (by intro e; rw [e] at h8; cases h8)
    show (joinL 58 (gs.map hexL)).length ≤ 39
    omega
  · have h4 := (joinH_len (gs.take f)).1
    have h5 := (joinH_len (gs.drop (f + l))).1
    unfold textG
    rw [if_neg (by omega), List.length_append, List.length_cons, List.length_cons]
    rw [List.length_take] at h4
    rw [List.length_drop] at h5
    omega
/-- The gap's row: noughts alone; none where no two stand side by side. -/
def gapZ (zs : List Bool) : Bool := decide (gapP zs = (0, 0)) && (List.range 7).all (fun i => !(zs.getD i false && zs.getD (i + 1) false)) || (decide (2 ≤ (gapP zs).2) && decide ((gapP zs).1 + (gapP zs).2 ≤ 8) && (List.range 8).all (fun i => if (gapP zs).1 ≤ i ∧ i < (gapP zs).1 + (gapP zs).2 then zs.getD i false else true))
theorem gapZ_all : ∀ b0 b1 b2 b3 b4 b5 b6 b7 : Bool, gapZ [b0, b1, b2, b3, b4, b5, b6, b7] = true := by decide +kernel
theorem gapZ_any {zs : List Bool} (h : zs.length = 8) : gapZ zs = true := by
  match zs, h with
  | [b0, b1, b2, b3, b4, b5, b6, b7], _ => exact gapZ_all b0 b1 b2 b3 b4 b5 b6 b7
theorem flag_get {gs : List Nat} {i : Nat} (h8 : gs.length = 8) (hi : i < 8) : (flags gs).getD i false = (gs.getD i 0 == 0) := by
  unfold flags
  rw [List.getD_eq_getElem?_getD, List.getD_eq_getElem?_getD, List.getElem?_map, List.getElem?_eq_getElem (by omega)]
  rfl
theorem gap_rows {gs : List Nat} (h8 : gs.length = 8) : (gapP (flags gs) = (0, 0) ∧ ∀ i, i < 7 → ¬ (gs.getD i 0 = 0 ∧ gs.getD (i + 1) 0 = 0)) ∨ (2 ≤ (gapP (flags gs)).2 ∧ (gapP (flags gs)).1 + (gapP (flags gs)).2 ≤ 8 ∧ ∀ i, (gapP (flags gs)).1 ≤ i → i < (gapP (flags gs)).1 + (gapP (flags gs)).2 → gs.getD i 0 = 0) := by
  have h := gapZ_any (zs := flags gs) (by unfold flags; rw [List.length_map, h8])
  unfold gapZ at h
  simp only [Bool.or_eq_true, Bool.and_eq_true, decide_eq_true_eq, List.all_eq_true, List.mem_range] at h
  rcases h with ⟨h1, h2⟩ | ⟨⟨h1, h2⟩, h3⟩
  · refine .inl ⟨h1, fun i hi hz => ?_⟩
    have := h2 i hi
    rw [flag_get h8 (by omega), flag_get h8 (by omega), hz.1, hz.2] at this
    cases this
  · refine .inr ⟨h1, h2, fun i h4 h5 => ?_⟩
    have := h3 i (by omega)
    rw [if_pos ⟨h4, h5⟩, flag_get h8 (by omega)] at this
    exact eq_of_beq this
theorem gap_ok {gs : List Nat} (h8 : gs.length = 8) : GapOk gs (gapP (flags gs)).1 (gapP (flags gs)).2 := by
  rcases gap_rows h8 with ⟨h, _⟩ | h
  · rw [h]; exact .inl ⟨rfl, rfl⟩
  · exact .inr h
theorem p6_print {gs : List Nat} (h8 : gs.length = 8) (hg : ∀ g ∈ gs, g < 65536) : p6L (print6L gs) = some gs := p6_text h8 hg (gap_ok h8)
theorem print6_len {gs : List Nat} (h8 : gs.length = 8) : (print6L gs).length ≤ 39 := text_len h8 (gap_ok h8)
end Go.Proofs.YtffkaphbgfdpaaaGreatDoor
end
