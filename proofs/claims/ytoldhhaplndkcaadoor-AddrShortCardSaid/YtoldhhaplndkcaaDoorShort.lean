/- Plain laws: groups of four digits; gaps and noughts in an address's text. -/
import Derived.Test.YtoldhhaplndkcaaDoorBack6
namespace Go.Proofs.YtoldhhaplndkcaaDoor
set_option linter.unusedVariables false
set_option linter.unusedSimpArgs false

/-- The text of some bytes, a colon ahead of each second one. -/
def sh4 (L : List Nat) : Nat → List UInt8
  | 0 => []
  | i + 1 => sh4 L i ++ ((if 0 < i ∧ i % 2 = 0 then [58] else []) ++ [hch (L.getD i 0 / 16), hch (L.getD i 0 % 16)])
def hex4 (g : Nat) : List UInt8 := [hch (g / 256 / 16), hch (g / 256 % 16), hch (g % 256 / 16), hch (g % 256 % 16)]
set_option maxRecDepth 100000 in
theorem sh4_join {gs : List Nat} (h : gs.length = 8) : sh4 (bytesG gs) 16 = joinL 58 (gs.map hex4) := by
  match gs, h with
  | [g0, g1, g2, g3, g4, g5, g6, g7], _ => simp [sh4, bytesG, joinL, hex4]
theorem hex4_val {g : Nat} (h : g < 65536) : grpL (hex4 g) = some g := by
  unfold grpL hex4
  rw [if_neg (by simp)]
  have h1 : g / 256 / 16 < 16 := by omega
  have h2 : g / 256 % 16 < 16 := by omega
  have h3 : g % 256 / 16 < 16 := by omega
  have h4 : g % 256 % 16 < 16 := by omega
  rw [hxF_some _ _ (hch_val ⟨_, h1⟩).1, hxF_some _ _ (hch_val ⟨_, h2⟩).1, hxF_some _ _ (hch_val ⟨_, h3⟩).1, hxF_some _ _ (hch_val ⟨_, h4⟩).1]
  show some (16 * (16 * (16 * (16 * 0 + g / 256 / 16) + g / 256 % 16) + g % 256 / 16) + g % 256 % 16) = some g
  congr 1
  omega
theorem hex4_ok {g : Nat} (h : g < 65536) : OkP (hex4 g) := by
  refine ⟨by unfold hex4; simp, fun hm => ?_⟩
  have h1 : g / 256 / 16 < 16 := by omega
  have h2 : g / 256 % 16 < 16 := by omega
  have h3 : g % 256 / 16 < 16 := by omega
  have h4 : g % 256 % 16 < 16 := by omega
  unfold hex4 at hm
  simp only [List.mem_cons, List.not_mem_nil, or_false] at hm
  rcases hm with e | e | e | e
  · exact (hch_val ⟨_, h1⟩).2 e.symm
  · exact (hch_val ⟨_, h2⟩).2 e.symm
  · exact (hch_val ⟨_, h3⟩).2 e.symm
  · exact (hch_val ⟨_, h4⟩).2 e.symm
theorem p6_four {gs : List Nat} (h8 : gs.length = 8) (hg : ∀ g ∈ gs, g < 65536) : p6L (sh4 (bytesG gs) 16) = some gs := by
  have hok : ∀ p ∈ gs.map hex4, OkP p := fun p hp => by
    obtain ⟨g, h, rfl⟩ := List.mem_map.1 hp
    exact hex4_ok (hg g h)
  rw [sh4_join h8]
  have hc := cut_none hok
  have hr : readG (joinL 58 (gs.map hex4)) = some gs := by
    rw [readG_join hok]
    have := mapO_map (f := grpL) (g := hex4) (k := fun n => n) gs fun x hx => hex4_val (hg x hx)
    rw [this, List.map_id']
  rw [p6_some (x := gs) (y := []) (by rw [hc]; exact hr) (by rw [hc]; rfl), hc]
  show (if false = true then _ else if gs.length = 8 then some gs else none) = _
  rw [if_neg (by decide), if_pos h8]
theorem sh4_len (L : List Nat) : ∀ i, (sh4 L i).length ≤ 3 * i
  | 0 => Nat.le_refl _
  | i + 1 => by
    have := sh4_len L i
    unfold sh4
    rw [List.length_append, List.length_append]
    split
    · show _ + (1 + 2) ≤ _
      omega
    · show _ + (0 + 2) ≤ _
      omega
/-- How many places there are where a colon stands behind a colon. -/
def pairs : List UInt8 → Nat
  | [] => 0
  | b :: r => (if b = 58 ∧ r.head? = some 58 then 1 else 0) + pairs r
theorem pairs_piece : ∀ (p t : List UInt8), (58 : UInt8) ∉ p → pairs (p ++ t) = pairs t
  | [], t, _ => rfl
  | b :: p, t, h => by
    have hb : b ≠ 58 := fun e => h (by rw [e]; exact List.mem_cons_self ..)
    show (if b = 58 ∧ (p ++ t).head? = some 58 then 1 else 0) + pairs (p ++ t) = pairs t
    rw [if_neg (fun e => hb e.1), pairs_piece p t (fun e => h (List.mem_cons_of_mem _ e)), Nat.zero_add]
theorem pairs_join : ∀ (ps : List (List UInt8)) (t : List UInt8), (∀ p ∈ ps, OkP p) → pairs (joinL 58 ps ++ t) = pairs t
  | [], t, _ => rfl
  | [x], t, h => pairs_piece x t (h x (List.mem_cons_self ..)).2
  | x :: y :: r, t, h => by
    show pairs ((x ++ 58 :: joinL 58 (y :: r)) ++ t) = _
    have ht : ∀ p ∈ y :: r, OkP p := fun p hp => h p (List.mem_cons_of_mem _ hp)
    rw [List.append_assoc, pairs_piece x _ (h x (List.mem_cons_self ..)).2]
    show (if (58 : UInt8) = 58 ∧ (joinL 58 (y :: r) ++ t).head? = some 58 then 1 else 0) + pairs (joinL 58 (y :: r) ++ t) = _
    rw [if_neg (fun e => head_join ht (by simp) e.2), pairs_join (y :: r) t ht, Nat.zero_add]
theorem pairs_text {gs : List Nat} {f l : Nat} : pairs (textG gs f l) = if l = 0 then 0 else 1 := by
  unfold textG
  split
  · have := pairs_join (gs.map hexL) [] (okHs gs)
    rw [List.append_nil] at this
    exact this
  · rw [pairs_join _ _ (okHs _)]
    have h2 := pairs_join ((gs.drop (f + l)).map hexL) [] (okHs _)
    rw [List.append_nil] at h2
    show (if (58 : UInt8) = 58 ∧ (some (58 : UInt8)) = some 58 then 1 else 0) + ((if (58 : UInt8) = 58 ∧ (joinL 58 ((gs.drop (f + l)).map hexL)).head? = some 58 then 1 else 0) + pairs (joinL 58 ((gs.drop (f + l)).map hexL))) = 1
    rw [if_pos ⟨rfl, rfl⟩, h2, if_neg]
    · rfl
    · intro e
      cases hd : gs.drop (f + l) with
      | nil => rw [hd] at e; cases e.2
      | cons a r =>
        have := head_join (t := []) (okHs (gs.drop (f + l))) (by rw [hd]; simp)
        rw [List.append_nil] at this
        exact this e.2
/-- The program's count, place by place. -/
def cntL (t : List UInt8) : Nat → Nat
  | 0 => 0
  | i + 1 => cntL t i + if 0 < i ∧ t[i]? = some 58 ∧ t[i - 1]? = some 58 then 1 else 0
theorem cntL_cons (b : UInt8) (r : List UInt8) : ∀ i, i ≤ r.length → cntL (b :: r) (i + 1) = cntL r i + if 0 < i ∧ b = 58 ∧ r.head? = some 58 then 1 else 0
  | 0, _ => by
    show 0 + (if 0 < 0 ∧ _ then 1 else 0) = 0 + _
    rw [if_neg (fun h => by cases h.1), if_neg (fun h => by cases h.1)]
  | i + 1, h => by
    have ih := cntL_cons b r i (by omega)
    show cntL (b :: r) (i + 1) + (if 0 < i + 1 ∧ (b :: r)[i + 1]? = some 58 ∧ (b :: r)[i + 1 - 1]? = some 58 then 1 else 0) = cntL r i + (if 0 < i ∧ r[i]? = some 58 ∧ r[i - 1]? = some 58 then 1 else 0) + _
    rw [ih]
    have e1 : (b :: r)[i + 1]? = r[i]? := rfl
    have hh : r.head? = r[0]? := by cases r <;> rfl
    rw [e1, Nat.add_sub_cancel, hh]
    cases i with
    | zero =>
      have e2 : (b :: r)[0]? = some b := rfl
      rw [e2]
      by_cases hb : b = 58
      · subst hb
        by_cases h0 : r[0]? = some 58 <;> simp [h0]
      · have : ¬ (some b = some (58 : UInt8)) := fun e => hb (Option.some.inj e)
        simp [hb]
    | succ i =>
      have e2 : (b :: r)[i + 1]? = r[i]? := rfl
      rw [e2, Nat.add_sub_cancel]
      simp only [Nat.zero_lt_succ, true_and]
      omega
theorem cntL_pairs : ∀ (t : List UInt8), cntL t t.length = pairs t
  | [] => rfl
  | b :: r => by
    show cntL (b :: r) (r.length + 1) = _
    rw [cntL_cons b r r.length (Nat.le_refl _), cntL_pairs r]
    show _ = (if b = 58 ∧ r.head? = some 58 then 1 else 0) + pairs r
    rw [Nat.add_comm]
    congr 1
    cases r with
    | nil => simp
    | cons c r => simp
theorem cntL_le (t : List UInt8) : ∀ i, cntL t i ≤ i
  | 0 => Nat.le_refl _
  | i + 1 => by
    have := cntL_le t i
    unfold cntL
    split <;> omega
/-- A needless nought: one that begins a group of more than one digit. -/
def badZ : Bool → List UInt8 → Bool
  | _, [] => false
  | b, c :: r => (b && decide (c = 48) && decide (r ≠ []) && decide (r.head? ≠ some 58)) || badZ (decide (c = 58)) r
theorem badZ_piece : ∀ (p t : List UInt8) (b : Bool), (58 : UInt8) ∉ p → p ≠ [] → (b = true → p = [48] ∧ (t = [] ∨ t.head? = some 58) ∨ p.head? ≠ some 48) → badZ b (p ++ t) = badZ false t
  | [], t, b, _, h, _ => absurd rfl h
  | c :: p, t, b, h, _, hz => by
    have hc : c ≠ 58 := fun e => h (by rw [e]; exact List.mem_cons_self ..)
    show ((b && decide (c = 48) && decide (p ++ t ≠ []) && decide ((p ++ t).head? ≠ some 58)) || badZ (decide (c = 58)) (p ++ t)) = _
    have h1 : (b && decide (c = 48) && decide (p ++ t ≠ []) && decide ((p ++ t).head? ≠ some 58)) = false := by
      cases b with
      | false => rfl
      | true =>
        rcases hz rfl with ⟨e, ht⟩ | e
        · cases e
          rcases ht with rfl | ht
          · rfl
          · have : decide (([] ++ t).head? ≠ some 58) = false := by simp [ht]
            rw [this, Bool.and_false]
        · have : decide (c = 48) = false := decide_eq_false fun e2 => e (by rw [e2]; rfl)
          rw [this]
          rfl
    rw [h1, Bool.false_or, decide_eq_false hc]
    cases p with
    | nil => rfl
    | cons d p => exact badZ_piece (d :: p) t false (fun e => h (List.mem_cons_of_mem _ e)) (by simp) (fun e => by cases e)
theorem hch_zero {d : Nat} (h : d < 16) : hch d = 48 → d = 0 := fun e => by
  by_cases h0 : d = 0
  · exact h0
  · exact absurd e (hch_ne h h0)
theorem hexF_head : ∀ (f n : Nat), 0 < n → n < 16 ^ f → (hexF f n).head? ≠ some 48
  | 0, n, h0, h => by simp at h; omega
  | f + 1, n, h0, h => by
    unfold hexF
    split
    · rename_i h1
      intro e
      have := hch_zero h1 (Option.some.inj e)
      omega
    · rename_i h1
      have ih := hexF_head f (n / 16) (by omega) (by rw [Nat.pow_succ] at h; omega)
      cases f with
      | zero => simp at h; omega
      | succ f =>
        cases hx : hexF (f + 1) (n / 16) with
        | nil => exact absurd hx (hexF_pos f _)
        | cons c r =>
          rw [hx] at ih
          exact ih
theorem hexL_zero {g : Nat} (h : g < 65536) : hexL g = [48] ∨ (hexL g).head? ≠ some 48 := by
  by_cases h0 : g = 0
  · subst h0
    exact .inl rfl
  · exact .inr (hexF_head 4 g (by omega) (by omega))
theorem badZ_join : ∀ (gs : List Nat) (t : List UInt8), (∀ g ∈ gs, g < 65536) → gs ≠ [] → (t = [] ∨ t.head? = some 58) → badZ true (joinL 58 (gs.map hexL) ++ t) = badZ false t
  | [], t, _, h, _ => absurd rfl h
  | [g], t, hg, _, ht => by
    refine badZ_piece (hexL g) t true (okH g).2 (okH g).1 fun _ => ?_
    rcases hexL_zero (hg g (List.mem_cons_self ..)) with h | h
    · exact .inl ⟨h, ht⟩
    · exact .inr h
  | g :: k :: r, t, hg, _, ht => by
    show badZ true ((hexL g ++ 58 :: joinL 58 ((k :: r).map hexL)) ++ t) = _
    rw [List.append_assoc, badZ_piece (hexL g) _ true (okH g).2 (okH g).1 (fun _ => by
      rcases hexL_zero (hg g (List.mem_cons_self ..)) with h | h
      · exact .inl ⟨h, .inr rfl⟩
      · exact .inr h)]
    show badZ false (58 :: (joinL 58 ((k :: r).map hexL) ++ t)) = _
    exact badZ_join (k :: r) t (fun x hx => hg x (List.mem_cons_of_mem _ hx)) (by simp) ht
theorem badZ_text {gs : List Nat} {f l : Nat} (hg : ∀ g ∈ gs, g < 65536) (hn : gs ≠ []) : badZ true (textG gs f l) = false := by
  unfold textG
  split
  · have := badZ_join gs [] hg hn (.inl rfl)
    rw [List.append_nil] at this
    exact this
  · have h2 : badZ true (joinL 58 ((gs.drop (f + l)).map hexL)) = false := by
      cases hd : gs.drop (f + l) with
      | nil => rfl
      | cons a r =>
        have := badZ_join (a :: r) [] (fun x hx => hg x (List.mem_of_mem_drop (by rw [hd]; exact hx))) (by simp) (.inl rfl)
        rw [List.append_nil] at this
        exact this
    cases ht : gs.take f with
    | nil => exact h2
    | cons a r =>
      rw [badZ_join (a :: r) _ (fun x hx => hg x (List.mem_of_mem_take (by rw [ht]; exact hx))) (by simp) (.inr rfl)]
      exact h2
theorem badZ_at : ∀ (t : List UInt8) (b : Bool), badZ b t = false → ∀ i, t[i]? = some 48 → (i = 0 ∧ b = true ∨ 0 < i ∧ t[i - 1]? = some 58) → i + 1 < t.length → t[i + 1]? = some 58
  | [], _, _, i, h, _, _ => by cases h
  | c :: r, b, h, 0, h0, hb, hl => by
    simp only [badZ, Bool.or_eq_false_iff] at h
    have hc : c = 48 := Option.some.inj h0
    have hb2 : b = true := by
      rcases hb with h | h
      · exact h.2
      · exact absurd h.1 (by omega)
    have h1 := h.1
    rw [hb2, decide_eq_true hc] at h1
    cases r with
    | nil => simp at hl
    | cons d r =>
      simp at h1
      show some d = some 58
      rw [h1]
  | c :: r, b, h, i + 1, h0, hb, hl => by
    simp only [badZ, Bool.or_eq_false_iff] at h
    refine badZ_at r (decide (c = 58)) h.2 i h0 ?_ (by simp at hl; omega)
    rcases hb with hb | hb
    · exact absurd hb.1 (by omega)
    · cases i with
      | zero =>
        left
        refine ⟨rfl, decide_eq_true (Option.some.inj hb.2)⟩
      | succ i => exact .inr ⟨by omega, hb.2⟩
/-- The rows that the program looks for. -/
def rowsL (gs : List Nat) : Nat → Nat
  | 0 => 0
  | i + 1 => if gs.getD i 0 = 0 ∧ gs.getD (i + 1) 0 = 0 then 1 else rowsL gs i
theorem rowsL_no {gs : List Nat} (h : ∀ i, i < 7 → ¬ (gs.getD i 0 = 0 ∧ gs.getD (i + 1) 0 = 0)) : ∀ i, i ≤ 7 → rowsL gs i = 0
  | 0, _ => rfl
  | i + 1, hi => by
    unfold rowsL
    rw [if_neg (h i (by omega))]
    exact rowsL_no h i (by omega)
theorem rowsL_yes {gs : List Nat} {k : Nat} (hk : gs.getD k 0 = 0 ∧ gs.getD (k + 1) 0 = 0) : ∀ i, k < i → rowsL gs i = 1
  | 0, h => by omega
  | i + 1, h => by
    unfold rowsL
    by_cases e : k = i
    · subst e
      rw [if_pos hk]
    · split
      · rfl
      · exact rowsL_yes hk i (by omega)
theorem gaps_rows {gs : List Nat} (h8 : gs.length = 8) : cntL (print6L gs) (print6L gs).length = rowsL gs 7 := by
  rw [cntL_pairs]
  unfold print6L
  rw [pairs_text]
  rcases gap_rows h8 with ⟨h, hn⟩ | ⟨h2, h3, h4⟩
  · rw [h]
    exact (rowsL_no hn 7 (Nat.le_refl _)).symm
  · rw [if_neg (by omega)]
    exact (rowsL_yes (k := (gapP (flags gs)).1) ⟨h4 _ (Nat.le_refl _) (by omega), h4 _ (by omega) (by omega)⟩ 7 (by omega)).symm
theorem no_bad {gs : List Nat} (h8 : gs.length = 8) (hg : ∀ g ∈ gs, g < 65536) (i : Nat) (h0 : (print6L gs)[i]? = some 48) (hb : i = 0 ∨ 0 < i ∧ (print6L gs)[i - 1]? = some 58) (hl : i + 1 < (print6L gs).length) : (print6L gs)[i + 1]? = some 58 :=
  badZ_at _ true (badZ_text hg (by intro e; rw [e] at h8; cases h8)) i h0 (hb.imp (fun h => ⟨h, rfl⟩) id) hl
end Go.Proofs.YtoldhhaplndkcaaDoor
