/- What (*types.walk).add makes of a list, in plain Lean; what lies where while it goes on. -/
import Derived.Test.YtedhlofmkehfkaaTab
import Derived.Test.YtedhlofmkehfkaaTree
import Derived.Test.YtedhlofmkehfkaaMade4
import Derived.Test.YtedhlofmkehfkaaNs
import Derived.Deep.AppendLies
import Derived.Laws.EntriesVeiled
import Derived.Deep.DeepCutAuto
import Derived.Deep.CutBlock
import Derived.Deep.RegionLaw
import Derived.Laws.Closers25b
import Derived.Deep.RegionHeld3
namespace Go.Proofs.Ytedhlofmkehfkaa
open Go.RowKit Go.Shelf
set_option linter.unusedVariables false
set_option linter.unusedSimpArgs false

/-- The table lies in block r and in those behind it, ahead of hi. -/
structure TabAt (r hi : Nat) (w : World) : Prop where
  out : ∃ es : List (Int × Value), MapRow w r es ∧ es.map (·.1) = (List.range 16).map (fun i : Nat => ((i : Int) + 1)) ∧ (∀ p ∈ es, RowOk (r + 1) hi w p)
  lt : r < hi
  size : hi ≤ w.heap.size
theorem TabAt.agree {r hi : Nat} {w W : World} (h : TabAt r hi w) (hb : AgreeOn r hi w W) : TabAt r hi W := by
  obtain ⟨es, h1, h2, h3⟩ := h.out
  exact ⟨⟨es, h1.congr (hb.block r (Nat.le_refl _) h.lt), h2, fun p hp => (h3 p hp).later (hb.narrow (Nat.le_succ r) (Nat.le_refl _)) (Nat.le_refl _) (Nat.le_refl _)⟩, h.lt, hb.size⟩
theorem TabAt.below {r hi kb : Nat} {w W : World} (h : TabAt r hi w) (hb : Below kb w W) (hk : hi ≤ kb) : TabAt r hi W := h.agree (AgreeOn.below hb hk h.size)
theorem lookE_mem {es : List (Int × Value)} {k : Int} {v : Value} (h : lookE es k = some v) : (k, v) ∈ es := by
  induction es with
  | nil => simp [lookE] at h
  | cons p es ih =>
    simp only [lookE] at h
    split at h
    · rename_i hk
      cases h
      subst hk
      exact List.mem_cons_self
    · exact List.mem_cons_of_mem _ (ih h)
theorem lookE_some {es : List (Int × Value)} (h : es.map (·.1) = (List.range 16).map (fun i : Nat => ((i : Int) + 1))) {k : Int} (h0 : 1 ≤ k) (h1 : k ≤ 16) : ∃ v, lookE es k = some v := by
  have hm : k ∈ es.map (·.1) := by
    rw [h]
    refine List.mem_map.2 ⟨(k - 1).toNat, List.mem_range.2 (by omega), by omega⟩
  clear h h0 h1
  induction es with
  | nil => simp at hm
  | cons p es ih =>
    by_cases hk : k = p.1
    · exact ⟨p.2, by simp [lookE, hk]⟩
    · obtain ⟨v, hv⟩ := ih (by simpa [hk] using hm)
      exact ⟨v, by simp [lookE, hk, hv]⟩
theorem lookE_none {es : List (Int × Value)} (h : es.map (·.1) = (List.range 16).map (fun i : Nat => ((i : Int) + 1))) {k : Int} (hk : k < 1 ∨ 16 < k) : lookE es k = none := by
  have hne : ∀ p ∈ es, k ≠ p.1 := by
    intro p hp e
    have : p.1 ∈ es.map (·.1) := List.mem_map_of_mem hp
    rw [h] at this
    obtain ⟨i, hi, e2⟩ := List.mem_map.1 this
    have := List.mem_range.1 hi
    omega
  clear h hk
  induction es with
  | nil => rfl
  | cons p es ih =>
    simp only [lookE]
    rw [if_neg (hne p List.mem_cons_self)]
    exact ih fun q hq => hne q (List.mem_cons_of_mem _ hq)
/-- A look-up in the table, of a kind that is none. -/
theorem TabAt.look_none {r hi : Nat} {w : World} (h : TabAt r hi w) {k : Int} (hk : k < 1 ∨ 16 < k) (z : Value) (hz : ∀ w, (zeroValue 64).run Try.prog w = .ok z w) :
    (Instr.lookup 56 (.map (some r)) (.int .i64 k) true).run Try.prog w = .ok (.tuple #[z, .bool false]) w := by
  obtain ⟨es, h1, h2, h3⟩ := h.out
  have := run_lookup_int (P := Try.prog) w _ _ _ Try.underlying56 Try.underlying3 z hz r es h1 k true
  rw [lookE_none h2 hk] at this
  simpa using this
/-- .., of a kind. -/
theorem TabAt.look_some {r hi : Nat} {w : World} (h : TabAt r hi w) {k : Int} (h0 : 1 ≤ k) (h1 : k ≤ 16) (z : Value) (hz : ∀ w, (zeroValue 64).run Try.prog w = .ok z w) (b : Bool) :
    ∃ u f g, RowOk (r + 1) hi w (k, .agg #[.bool (truthK k), .bool (wantsK k), u, f, g]) ∧
    (Instr.lookup 56 (.map (some r)) (.int .i64 k) b).run Try.prog w = .ok (if b then .tuple #[.agg #[.bool (truthK k), .bool (wantsK k), u, f, g], .bool true] else .agg #[.bool (truthK k), .bool (wantsK k), u, f, g]) w := by
  obtain ⟨es, e1, e2, e3⟩ := h.out
  obtain ⟨v, hv⟩ := lookE_some e2 h0 h1
  have := run_lookup_int (P := Try.prog) w _ _ _ Try.underlying56 Try.underlying3 z hz r es e1 k b
  rw [hv] at this
  have hm := e3 _ (lookE_mem hv)
  obtain ⟨u, f, g, he, q⟩ := hm.out
  simp only at he
  subst he
  exact ⟨u, f, g, hm, this⟩

theorem one_any (v : Value) (base : Nat) (st : List Int) (w : World) (hv : OwnI w base v st) (hn : st.length ≤ 4611686018427387904) :
    Calls Try.prog 38 #[v] w fun e w' => e = .returned (.bool (decide (0 < st.length ∧ st.getD (st.length - 1) 0 = 0))) ∧ w = w' := by
  obtain ⟨A, c, rfl, hA⟩ := hv.form
  by_cases hp : 0 < st.length
  · obtain ⟨g, rfl, hg, hc⟩ := hA hp
    have hcell := hc (st.length - 1) (by omega)
    rw [List.getD_eq_getElem?_getD] at hcell
    have hp1 : (0 : Int) ≤ (st.length : Int) - 1 := by omega
    have hp2 : (st.length : Int) - 1 < (st.length : Int) := by omega
    have HV := Lib.hid hv
    clear hA hc hv
    go_enter Try.func38, Try.ntmps38
    go_wp2
    go_ret
    refine ⟨?_, rfl⟩
    rw [List.getD_eq_getElem?_getD]
    simp [hp]
    rfl
  · have he : st = [] := by simpa using hp
    subst he
    clear hA hv
    go_enter Try.func38, Try.ntmps38
    go_wp2
    go_ret
    exact ⟨rfl, rfl⟩

theorem Part.enc1 (p : Part) : ∀ u ∈ partL p, u.oneCell' = true := by
  intro u hu
  simp only [partL, List.mem_cons, List.not_mem_nil, or_false] at hu
  rcases hu with rfl | rfl | rfl <;> rfl
def kidsL (a : Nat) (st : List Int) (ps : List Part) : List Part :=
  if a = 1 then [ps.getD (st.length - 1) Part.zero]
  else if a = 2 then [ps.getD (st.getD (st.length - 1) 0 - 1).toNat Part.zero, ps.getD (st.length - 1) Part.zero] else []
theorem getD_u32 {ps : List Part} (h : ∀ p ∈ ps, isU32 p.value) (i : Nat) : isU32 (ps.getD i Part.zero).value := by
  rw [List.getD_eq_getElem?_getD]
  cases hg : ps[i]? with
  | none => exact ⟨by decide, by decide⟩
  | some p => exact h p (List.mem_of_getElem? hg)
theorem kids_u32 {a : Nat} {st : List Int} {ps : List Part} (h : ∀ p ∈ ps, isU32 p.value) : ∀ p ∈ kidsL a st ps, isU32 p.value := by
  intro p hp
  unfold kidsL at hp
  split at hp
  · rw [List.mem_singleton] at hp
    subst hp
    exact getD_u32 h _
  · split at hp
    · simp only [List.mem_cons, List.not_mem_nil, or_false] at hp
      rcases hp with rfl | rfl <;> exact getD_u32 h _
    · cases hp
theorem reckon_u32 {op x y : Int} (hx : isU32 x) (hy : isU32 y) : isU32 (reckon op x y) := by
  have hb : ∀ o, isU32 (Go.bits o .u32 x y) := fun o => ⟨bits_lo_u32 o x y, bits_hi_u32 o x y⟩
  obtain ⟨hx0, hx1⟩ := hx
  obtain ⟨hy0, hy1⟩ := hy
  have hdiv : ∀ d : Int, 0 ≤ d → isU32 (x / d) := fun d hd => by
    rcases Int.lt_or_eq_of_le hd with h | h
    · exact ⟨Int.ediv_nonneg hx0 hd, Int.le_trans (Int.ediv_le_self _ hx0) hx1⟩
    · rw [← h, Int.ediv_zero]; exact ⟨by omega, by omega⟩
  unfold reckon
  repeat' split
  all_goals first
    | exact hb _
    | exact hdiv _ hy0
    | exact hdiv _ (Int.pow_nonneg (by omega))
    | (refine ⟨Int.emod_nonneg _ (by omega), ?_⟩; have := Int.emod_lt_of_pos (by assumption) (show (0 : Int) < 4294967296 by omega); omega)
    | skip
  all_goals first
    | (refine ⟨Int.emod_nonneg _ (by decide), ?_⟩; exact Int.le_of_lt_add_one (Int.emod_lt_of_pos _ (by decide)))
    | (rcases Int.lt_or_eq_of_le hy0 with h | h
       · exact ⟨Int.emod_nonneg _ (by omega), by have := Int.emod_lt_of_pos x h; omega⟩
       · rw [← h, Int.emod_zero]; exact ⟨hx0, hx1⟩)
theorem made_u32 {n : Node} {t w : Bool} {kids : List Part} (hk : ∀ p ∈ kids, isU32 p.value) (hn : isU32 n.n) : isU32 (madeL n t w kids).1.value := by
  have h0 : isU32 0 := ⟨by decide, by decide⟩
  unfold madeL
  repeat' split
  all_goals first
    | exact hn
    | exact h0
    | exact reckon_u32 (getD_u32 hk _) (getD_u32 hk _)
    | exact ⟨Int.emod_nonneg _ (by decide), Int.le_of_lt_add_one (Int.emod_lt_of_pos _ (by decide))⟩
/-- One node more: an error, or where the trees begin now, and the trees. -/
def stepT (n : Node) (st : List Int) (ps : List Part) : Int × List Int × List Part :=
  match arityK n.kind with
  | none => (120, st, ps)
  | some a => match addL st a with
    | none => (120, st, ps)
    | some st2 =>
      if unusedB n.kind n = false then (120, st, ps)
      else if (madeL n (truthK n.kind) (wantsK n.kind) (kidsL a st ps)).2 ≠ 0 then ((madeL n (truthK n.kind) (wantsK n.kind) (kidsL a st ps)).2, st, ps)
      else if fitsB n.kind n = false then (124, st, ps)
      else if n.kind = 15 ∧ wholeB n = false then (125, st, ps)
      else (0, st2, ps ++ [(madeL n (truthK n.kind) (wantsK n.kind) (kidsL a st ps)).1])
def OwnP (w : World) (base : Nat) (v : Value) (ps : List Part) : Prop := w.ownsRow base 55 3 v ps.length (ps.flatMap partL)
/-- The walk's own row, with what it holds. -/
structure WalkRow (r kb : Nat) (vs vp : Value) (st : List Int) (ps : List Part) (w : World) : Prop where
  row : w.heap[kb]? = some (.cells #[.map (some r), vs, vp] 61 (0, 0))
  st : OwnI w (kb + 1) vs st
  ps : OwnP w (kb + 1) vp ps
  apart : ∀ b, vs.ownBlock = some b → vp.ownBlock ≠ some b
structure WalkAt (r hi kb : Nat) (st : List Int) (ps : List Part) (w : World) : Prop where
  tab : TabAt r hi w
  le : hi ≤ kb
  row : ∃ vs vp, WalkRow r kb vs vp st ps w
  starts : StartsOk st
  len : ps.length = st.length
  u32 : ∀ p ∈ ps, isU32 p.value
theorem arityK_none {k : Int} (h : arityK k = none) : k < 1 ∨ 16 < k := by
  by_cases h0 : k < 1
  · exact .inl h0
  · by_cases h1 : 16 < k
    · exact .inr h1
    · exfalso
      have : k = 1 ∨ k = 2 ∨ k = 3 ∨ k = 4 ∨ k = 5 ∨ k = 6 ∨ k = 7 ∨ k = 8 ∨ k = 9 ∨ k = 10 ∨ k = 11 ∨ k = 12 ∨ k = 13 ∨ k = 14 ∨ k = 15 ∨ k = 16 := by omega
      rcases this with rfl | rfl | rfl | rfl | rfl | rfl | rfl | rfl | rfl | rfl | rfl | rfl | rfl | rfl | rfl | rfl <;> simp [arityK] at h
/-- Behind the look-up: the node and the row found lie in blocks of their own. -/
structure AtRow (w : World) (B p : Nat) (n : Node) (t wa : Bool) (u f g : Value) (W : World) : Prop where
  node : W.heap[B]? = some (.cells (enc n) 40 (0, 0))
  row : W.heap[p]? = some (.cells #[.bool t, .bool wa, u, f, g] 64 (0, 0))
  lt : B < p
  below : Below B w W
theorem look_start {w : World} {kb r : Nat} {n : Node} {res : Value} (c0 : w.cell? ⟨kb, 0, none⟩ = some (.map (some r))) (hL : ∀ W, Below w.heap.size w W → (Instr.lookup 56 (.map (some r)) (.int .i64 n.kind) true).run Try.prog W = .ok res W) :
    (w.alloc (.cells (enc n) 40)).drew.cell? ⟨kb, 0, none⟩ = some (.map (some r)) ∧ Below w.heap.size w (w.alloc (.cells (enc n) 40)).drew ∧ (w.alloc (.cells (enc n) 40)).drew.heap[w.heap.size]? = some (.cells (enc n) 40 (0, 0)) ∧ (w.alloc (.cells (enc n) 40)).drew.cell? ⟨w.heap.size, 0, none⟩ = some (.int .i64 n.kind) ∧
      w.heap.size < (w.alloc (.cells (enc n) 40)).drew.heap.size ∧ (Instr.lookup 56 (.map (some r)) (.int .i64 n.kind) true).run Try.prog (w.alloc (.cells (enc n) 40)).drew = .ok res (w.alloc (.cells (enc n) 40)).drew := by
  have hb : Below w.heap.size w (w.alloc (.cells (enc n) 40)).drew := ((Below.refl _ w).alloc (Nat.le_refl _) _).drew
  have hn : (w.alloc (.cells (enc n) 40)).drew.heap[w.heap.size]? = some (.cells (enc n) 40 (0, 0)) := heap_alloc_new w _
  exact ⟨(hb.cell (World.block_lt_of_cell? w _ c0)).trans c0, hb, hn, by rw [cell_of_row _ _ 0 _ _ _ hn]; rfl, by show w.heap.size < (w.alloc _).heap.size; simp, hL _ hb⟩
theorem Below.ofDrew {B : Nat} {a b : World} (h : Below B a b) : Below B a.drew b := ⟨h.os, h.tape, h.output, h.size, h.block⟩
theorem below_put (W : World) (o : Obj) : Below W.drew.heap.size W.drew (W.alloc o).drew := Below.ofDrew ((Below.alloc (Below.refl W.heap.size W) (Nat.le_refl _) o).drew)
theorem look_later {w V V' : World} {kb r : Nat} {n : Node} {res : Value} (hL : ∀ W, Below w.heap.size w W → (Instr.lookup 56 (.map (some r)) (.int .i64 n.kind) true).run Try.prog W = .ok res W)
    (h : V.cell? ⟨kb, 0, none⟩ = some (.map (some r)) ∧ Below w.heap.size w V ∧ V.heap[w.heap.size]? = some (.cells (enc n) 40 (0, 0)) ∧ V.cell? ⟨w.heap.size, 0, none⟩ = some (.int .i64 n.kind) ∧ w.heap.size < V.heap.size ∧ (Instr.lookup 56 (.map (some r)) (.int .i64 n.kind) true).run Try.prog V = .ok res V)
    (hb : Below V.heap.size V V') :
    V'.cell? ⟨kb, 0, none⟩ = some (.map (some r)) ∧ Below w.heap.size w V' ∧ V'.heap[w.heap.size]? = some (.cells (enc n) 40 (0, 0)) ∧ V'.cell? ⟨w.heap.size, 0, none⟩ = some (.int .i64 n.kind) ∧ w.heap.size < V'.heap.size ∧ (Instr.lookup 56 (.map (some r)) (.int .i64 n.kind) true).run Try.prog V' = .ok res V' := by
  obtain ⟨h1, h2, h3, h4, h5, h6⟩ := h
  have h7 : Below w.heap.size w V' := h2.trans (hb.mono (Nat.le_of_lt h5))
  exact ⟨(hb.cell (World.block_lt_of_cell? V _ h1)).trans h1, h7, (hb.block _ h5).trans h3, (hb.cell (by simpa using h5)).trans h4, Nat.lt_of_lt_of_le h5 hb.size, hL _ h7⟩
theorem atRow_new {w : World} {n : Node} {t wa : Bool} {u f g : Value} : AtRow w w.heap.size (w.heap.size + 1) n t wa u f g ((w.alloc (.cells (enc n) 40)).alloc (.cells #[.bool t, .bool wa, u, f, g] 64)).drew := by
  refine ⟨?_, ?_, by omega, (((Below.refl _ w).alloc (Nat.le_refl _) _).alloc (by simp) _).drew⟩
  · exact (Below.heap_alloc (w.alloc (.cells (enc n) 40)) _ w.heap.size (by simp)).trans (heap_alloc_new w _)
  · have := heap_alloc_new (w.alloc (.cells (enc n) 40)) (.cells #[.bool t, .bool wa, u, f, g] 64)
    rw [show (w.alloc (.cells (enc n) 40)).heap.size = w.heap.size + 1 from by simp] at this
    exact this
theorem ownP_form {w : World} {base : Nat} {v : Value} {ps : List Part} (h : OwnP w base v ps) : ∃ A c, v = .slice A ps.length c ∧ (0 < ps.length → ∃ g, A = some ⟨g, 0, none⟩ ∧ base ≤ g ∧ ∀ i, i < ps.length → ∀ j u, (partL (ps.getD i Part.zero))[j]? = some u → w.cell? ⟨g, i * 3 + j, none⟩ = some u) := by
  have h0 := h
  rcases h.2 with ⟨rfl, e⟩ | ⟨g, cap, cur, rfl, hb, hh, _⟩
  · exact ⟨none, 0, by rw [e], fun hp => by omega⟩
  · refine ⟨_, _, rfl, fun hp => ⟨g, rfl, hb, fun i hi j u hu => ?_⟩⟩
    have hj : j < 3 := by
      have := (List.getElem?_eq_some_iff.1 hu).1
      simpa [partL] using this
    have hget : (ps.flatMap partL)[i * 3 + j]? = some u := by
      clear h0 h hh
      rename_i hrest
      clear hrest
      induction ps generalizing i with
      | nil => cases hi
      | cons p ps ih =>
        rw [List.flatMap_cons]
        cases i with
        | zero =>
          rw [List.getElem?_append_left (by simp [partL]; omega)]
          simpa using hu
        | succ i =>
          rw [List.getElem?_append_right (by simp [partL]; omega)]
          have e : (i + 1) * 3 + j - (partL p).length = i * 3 + j := by simp [partL]; omega
          rw [e]
          by_cases hp : 0 < ps.length
          · exact ih hp i (by simpa using hi) (by simpa using hu)
          · simp at hi; omega
    have := World.ownsRow.cells h0 (g := g) rfl (i * 3 + j) _ hget
    rwa [show (⟨g, 0, none⟩ : Addr).add (i * 3 + j) = ⟨g, i * 3 + j, none⟩ from by unfold Addr.add; split <;> simp_all] at this
theorem keep5 {w3 W W' : World} {a b c d e : Addr} {va vb vc vd ve : Value} (h : W.cell? a = some va ∧ W.cell? b = some vb ∧ W.cell? c = some vc ∧ W.cell? d = some vd ∧ W.cell? e = some ve ∧ Below w3.heap.size w3 W) (hb : Below W.heap.size W W') :
    W'.cell? a = some va ∧ W'.cell? b = some vb ∧ W'.cell? c = some vc ∧ W'.cell? d = some vd ∧ W'.cell? e = some ve ∧ Below w3.heap.size w3 W' := by
  obtain ⟨h1, h2, h3, h4, h5, h6⟩ := h
  have k : ∀ {x : Addr} {v : Value}, W.cell? x = some v → W'.cell? x = some v := fun q => (hb.cell (World.block_lt_of_cell? W _ q)).trans q
  exact ⟨k h1, k h2, k h3, k h4, k h5, h6.trans (hb.mono h6.size)⟩
theorem keep8 {w3 W W' : World} {a b c d e f g i : Addr} {va vb vc vd ve vf vg vi : Value} (h : W.cell? a = some va ∧ W.cell? b = some vb ∧ W.cell? c = some vc ∧ W.cell? d = some vd ∧ W.cell? e = some ve ∧ W.cell? f = some vf ∧ W.cell? g = some vg ∧ W.cell? i = some vi ∧ Below w3.heap.size w3 W) (hb : Below W.heap.size W W') :
    W'.cell? a = some va ∧ W'.cell? b = some vb ∧ W'.cell? c = some vc ∧ W'.cell? d = some vd ∧ W'.cell? e = some ve ∧ W'.cell? f = some vf ∧ W'.cell? g = some vg ∧ W'.cell? i = some vi ∧ Below w3.heap.size w3 W' := by
  obtain ⟨h1, h2, h3, h4, h5, h6, h7, h8, h9⟩ := h
  have k : ∀ {x : Addr} {v : Value}, W.cell? x = some v → W'.cell? x = some v := fun q => (hb.cell (World.block_lt_of_cell? W _ q)).trans q
  exact ⟨k h1, k h2, k h3, k h4, k h5, k h6, k h7, k h8, h9.trans (hb.mono h9.size)⟩
theorem last9 {a b c d e f g h i : Prop} (H : a ∧ b ∧ c ∧ d ∧ e ∧ f ∧ g ∧ h ∧ i) : i := H.2.2.2.2.2.2.2.2
theorem kids_new1 (w : World) (P : Part) : KidsAt (w.alloc (.cells #[.bool P.truth, .bool P.constant, .int .u32 P.value] 55)).drew w.heap.size [P] := by
  intro i hi j u hu
  have hi : i = 0 := by simpa using hi
  subst hi
  have hh : (w.alloc (.cells #[.bool P.truth, .bool P.constant, .int .u32 P.value] 55)).drew.heap[w.heap.size]? = some (.cells #[.bool P.truth, .bool P.constant, .int .u32 P.value] 55 (0, 0)) := heap_alloc_new w _
  rw [cell_of_row _ _ _ _ _ _ hh]
  simpa [partL] using hu
theorem kids_new2 (w : World) (P Q : Part) : KidsAt (w.alloc (.cells #[.bool P.truth, .bool P.constant, .int .u32 P.value, .bool Q.truth, .bool Q.constant, .int .u32 Q.value] 55)).drew w.heap.size [P, Q] := by
  intro i hi j u hu
  have hj : j < 3 := by
    have := (List.getElem?_eq_some_iff.1 hu).1
    simpa [partL] using this
  have hh : (w.alloc (.cells #[.bool P.truth, .bool P.constant, .int .u32 P.value, .bool Q.truth, .bool Q.constant, .int .u32 Q.value] 55)).drew.heap[w.heap.size]? = some (.cells #[.bool P.truth, .bool P.constant, .int .u32 P.value, .bool Q.truth, .bool Q.constant, .int .u32 Q.value] 55 (0, 0)) := heap_alloc_new w _
  rw [cell_of_row _ _ _ _ _ _ hh]
  have hi : i < 2 := by simpa using hi
  have hi : i = 0 ∨ i = 1 := by omega
  have hj : j = 0 ∨ j = 1 ∨ j = 2 := by omega
  rcases hi with rfl | rfl <;> rcases hj with rfl | rfl | rfl <;> simpa [partL] using hu
/-- What is known in the middle of 'add'. -/
structure Mid (r hi kb N p : Nat) (n : Node) (t wa : Bool) (u f g : Value) (st : List Int) (ps : List Part) (vs vp : Value) (w W : World) : Prop where
  wr : WalkRow r kb vs vp st ps W
  node : W.heap[N]? = some (.cells (enc n) 40 (0, 0))
  row : W.heap[p]? = some (.cells #[.bool t, .bool wa, u, f, g] 64 (0, 0))
  below : Below kb w W
  kN : kb < N
  Np : N < p
  olds : ∀ b, vs.ownBlock = some b → b ≠ N ∧ b ≠ p
  oldp : ∀ b, vp.ownBlock = some b → b ≠ N ∧ b ≠ p
theorem Mid.start {r hi kb p : Nat} {n : Node} {t wa : Bool} {u f g : Value} {st : List Int} {ps : List Part} {vs vp : Value} {w W : World} (h : WalkRow r kb vs vp st ps w) (F : AtRow w w.heap.size p n t wa u f g W) : Mid r hi kb w.heap.size p n t wa u f g st ps vs vp w W := by
  have hk := (Array.getElem?_eq_some_iff.1 h.row).1
  refine ⟨⟨(F.below.block _ hk).trans h.row, own_later h.st fun b hb => F.below.block _ (own_lt h.st hb).2, own_later h.ps fun b hb => F.below.block _ (own_lt h.ps hb).2, h.apart⟩, F.node, F.row, F.below.mono (Nat.le_of_lt hk), hk, F.lt, ?_, ?_⟩
  · intro b hb
    have := (own_lt h.st hb).2
    have := F.lt
    omega
  · intro b hb
    have := (own_lt h.ps hb).2
    have := F.lt
    omega
theorem Mid.later {r hi kb N p : Nat} {n : Node} {t wa : Bool} {u f g : Value} {st : List Int} {ps : List Part} {vs vp : Value} {w W W' : World} (h : Mid r hi kb N p n t wa u f g st ps vs vp w W) (hb : Below W.heap.size W W') : Mid r hi kb N p n t wa u f g st ps vs vp w W' := by
  have hk := (Array.getElem?_eq_some_iff.1 h.wr.row).1
  exact ⟨⟨(hb.block _ hk).trans h.wr.row, own_later h.wr.st fun b q => hb.block _ (own_lt h.wr.st q).2, own_later h.wr.ps fun b q => hb.block _ (own_lt h.wr.ps q).2, h.wr.apart⟩, (hb.block _ (Array.getElem?_eq_some_iff.1 h.node).1).trans h.node, (hb.block _ (Array.getElem?_eq_some_iff.1 h.row).1).trans h.row,
    h.below.trans (hb.mono (Nat.le_of_lt hk)), h.kN, h.Np, h.olds, h.oldp⟩
theorem Mid.grown {r hi kb N p : Nat} {n : Node} {t wa : Bool} {u f g : Value} {st : List Int} {ps : List Part} {vs vp : Value} {w W W2 : World} (h : Mid r hi kb N p n t wa u f g st ps vs vp w W) (hg : W.grownBy W2 vs.ownBlock) :
    W2.heap[kb]? = some (.cells #[.map (some r), vs, vp] 61 (0, 0)) ∧ W2.heap[N]? = some (.cells (enc n) 40 (0, 0)) ∧ W2.heap[p]? = some (.cells #[.bool t, .bool wa, u, f, g] 64 (0, 0)) := by
  refine ⟨(hg.block kb (Array.getElem?_eq_some_iff.1 h.wr.row).1 fun e => ?_).trans h.wr.row, (hg.block N (Array.getElem?_eq_some_iff.1 h.node).1 fun e => (h.olds N e.symm).1 rfl).trans h.node, (hg.block p (Array.getElem?_eq_some_iff.1 h.row).1 fun e => (h.olds p e.symm).2 rfl).trans h.row⟩
  have := (own_lt h.wr.st e.symm).1
  omega
/-- Behind 'k.starts, ok = k.starts.Add(arity)'. -/
theorem Mid.starts {r hi kb N p : Nat} {n : Node} {t wa : Bool} {u f g : Value} {st st2 : List Int} {ps : List Part} {vs vp v2 : Value} {w W W2 : World} (h : Mid r hi kb N p n t wa u f g st ps vs vp w W)
    (h2 : OwnI W2 (kb + 1) v2 st2) (hg : W.grownBy W2 vs.ownBlock) (ho : v2.ownBlock = vs.ownBlock ∨ ∃ b, v2.ownBlock = some b ∧ W.heap.size ≤ b) : Mid r hi kb N p n t wa u f g st2 ps v2 vp w (W2.setCell ⟨kb, 1, none⟩ v2) := by
  have hk := (Array.getElem?_eq_some_iff.1 h.wr.row).1
  have hN := (Array.getElem?_eq_some_iff.1 h.node).1
  have hp := (Array.getElem?_eq_some_iff.1 h.row).1
  have hkne : some kb ≠ vs.ownBlock := fun e => by have := (own_lt h.wr.st e.symm).1; omega
  have hk2 : W2.heap[kb]? = _ := (hg.block kb hk hkne).trans h.wr.row
  have hN2 := h.kN
  have hNp := h.Np
  refine ⟨⟨?_, ?_, ?_, ?_⟩, ?_, ?_, ?_, h.kN, h.Np, ?_, h.oldp⟩
  · rw [heap_setCell_same W2 kb 1 _ _ _ hk2]
    rfl
  · exact own_later h2 fun b hb => heap_setCell_other _ _ _ _ (by have := (own_lt h2 hb).1; simp; omega)
  · refine own_later h.wr.ps fun b hb => ?_
    have hl := own_lt h.wr.ps hb
    rw [heap_setCell_other _ _ _ _ (by simp; omega)]
    exact hg.block b hl.2 fun e => h.wr.apart b e.symm hb
  · intro b hb hb2
    rcases ho with ho | ⟨b', ho, hge⟩
    · exact h.wr.apart b (ho ▸ hb) hb2
    · rw [ho] at hb
      cases hb
      have := (own_lt h.wr.ps hb2).2
      omega
  · rw [heap_setCell_other _ _ _ _ (by simp; omega)]
    exact (hg.block N hN fun e => (h.olds N e.symm).1 rfl).trans h.node
  · rw [heap_setCell_other _ _ _ _ (by simp; omega)]
    exact (hg.block p hp fun e => (h.olds p e.symm).2 rfl).trans h.row
  · exact (h.below.grown hg (Nat.le_of_lt hk) fun k e => by have := (own_lt h.wr.st e).1; omega).setCell (Nat.le_refl _) _
  · intro b hb
    rcases ho with ho | ⟨b', ho, hge⟩
    · exact h.olds b (ho ▸ hb)
    · rw [ho] at hb
      cases hb
      omega
/-- Behind 'k.parts = append(k.parts, p)'. -/
theorem Mid.parts {r hi kb N p : Nat} {n : Node} {t wa : Bool} {u f g : Value} {st : List Int} {ps ps2 : List Part} {vs vp v2 : Value} {w W W2 : World} (h : Mid r hi kb N p n t wa u f g st ps vs vp w W)
    (h2 : OwnP W2 (kb + 1) v2 ps2) (hg : W.grownBy W2 vp.ownBlock) (ho : v2.ownBlock = vp.ownBlock ∨ ∃ b, v2.ownBlock = some b ∧ W.heap.size ≤ b) : Mid r hi kb N p n t wa u f g st ps2 vs v2 w (W2.setCell ⟨kb, 2, none⟩ v2) := by
  have hk := (Array.getElem?_eq_some_iff.1 h.wr.row).1
  have hN := (Array.getElem?_eq_some_iff.1 h.node).1
  have hp := (Array.getElem?_eq_some_iff.1 h.row).1
  have hkne : some kb ≠ vp.ownBlock := fun e => by have := (own_lt h.wr.ps e.symm).1; omega
  have hk2 : W2.heap[kb]? = _ := (hg.block kb hk hkne).trans h.wr.row
  have hN2 := h.kN
  have hNp := h.Np
  refine ⟨⟨?_, ?_, ?_, ?_⟩, ?_, ?_, ?_, h.kN, h.Np, h.olds, ?_⟩
  · rw [heap_setCell_same W2 kb 2 _ _ _ hk2]
    rfl
  · refine own_later h.wr.st fun b hb => ?_
    have hl := own_lt h.wr.st hb
    rw [heap_setCell_other _ _ _ _ (by simp; omega)]
    exact hg.block b hl.2 fun e => h.wr.apart b hb e.symm
  · exact own_later h2 fun b hb => heap_setCell_other _ _ _ _ (by have := (own_lt h2 hb).1; simp; omega)
  · intro b hb hb2
    rcases ho with ho | ⟨b', ho, hge⟩
    · exact h.wr.apart b hb (ho ▸ hb2)
    · rw [ho] at hb2
      cases hb2
      have := (own_lt h.wr.st hb).2
      omega
  · rw [heap_setCell_other _ _ _ _ (by simp; omega)]
    exact (hg.block N hN fun e => (h.oldp N e.symm).1 rfl).trans h.node
  · rw [heap_setCell_other _ _ _ _ (by simp; omega)]
    exact (hg.block p hp fun e => (h.oldp p e.symm).2 rfl).trans h.row
  · exact (h.below.grown hg (Nat.le_of_lt hk) fun k e => by have := (own_lt h.wr.ps e).1; omega).setCell (Nat.le_refl _) _
  · intro b hb
    rcases ho with ho | ⟨b', ho, hge⟩
    · exact h.oldp b (ho ▸ hb)
    · rw [ho] at hb
      cases hb
      omega
theorem keep_k2 {w : World} {a : Addr} {v : Value} {o1 o2 : Obj} (h : w.cell? a = some v) : ((w.alloc o1).alloc o2).drew.cell? a = some v :=
  ((((Below.refl w.heap.size w).alloc (Nat.le_refl _) o1).alloc (by simp) o2).drew.cell (World.block_lt_of_cell? w _ h)).trans h
theorem keep_f2 {w : World} {a : Addr} {v : Value} {o1 o2 : Obj} (h : w.cell? a = some v) (hf : w.frozen? a = false) : ((w.alloc o1).alloc o2).drew.frozen? a = false :=
  ((((Below.refl w.heap.size w).alloc (Nat.le_refl _) o1).alloc (by simp) o2).drew.frozen (World.block_lt_of_cell? w _ h)).trans hf
theorem keepP {kb D : Nat} {vp c0 c1 c2 : Value} {W W' : World} (h : W.cell? ⟨kb, 2, none⟩ = some vp ∧ W.frozen? ⟨kb, 2, none⟩ = false ∧ W.cell? ⟨D, 0, none⟩ = some c0 ∧ W.cell? ⟨D, 1, none⟩ = some c1 ∧ W.cell? ⟨D, 2, none⟩ = some c2 ∧ kb < W.heap.size ∧ D < W.heap.size)
    (hk : W'.heap[kb]? = W.heap[kb]?) (hD : W'.heap[D]? = W.heap[D]?) (hs : W.heap.size ≤ W'.heap.size) :
    W'.cell? ⟨kb, 2, none⟩ = some vp ∧ W'.frozen? ⟨kb, 2, none⟩ = false ∧ W'.cell? ⟨D, 0, none⟩ = some c0 ∧ W'.cell? ⟨D, 1, none⟩ = some c1 ∧ W'.cell? ⟨D, 2, none⟩ = some c2 ∧ kb < W'.heap.size ∧ D < W'.heap.size :=
  ⟨(World.cell?_of_block (w := W) (a := ⟨kb, 2, none⟩) hk).trans h.1, (World.frozen?_of_block (w := W) (a := ⟨kb, 2, none⟩) hk).trans h.2.1, (World.cell?_of_block (w := W) (a := ⟨D, 0, none⟩) hD).trans h.2.2.1, (World.cell?_of_block (w := W) (a := ⟨D, 1, none⟩) hD).trans h.2.2.2.1, (World.cell?_of_block (w := W) (a := ⟨D, 2, none⟩) hD).trans h.2.2.2.2.1,
    Nat.lt_of_lt_of_le h.2.2.2.2.2.1 hs, Nat.lt_of_lt_of_le h.2.2.2.2.2.2 hs⟩
theorem keepP_start {kb : Nat} {vp : Value} {w5 : World} {P : Part} (k2 : w5.cell? ⟨kb, 2, none⟩ = some vp) (k2f : w5.frozen? ⟨kb, 2, none⟩ = false) :
    (w5.alloc (.cells #[.bool P.truth, .bool P.constant, .int .u32 P.value] 55)).drew.cell? ⟨kb, 2, none⟩ = some vp ∧ (w5.alloc (.cells #[.bool P.truth, .bool P.constant, .int .u32 P.value] 55)).drew.frozen? ⟨kb, 2, none⟩ = false ∧ (w5.alloc (.cells #[.bool P.truth, .bool P.constant, .int .u32 P.value] 55)).drew.cell? ⟨w5.heap.size, 0, none⟩ = some (.bool P.truth) ∧ (w5.alloc (.cells #[.bool P.truth, .bool P.constant, .int .u32 P.value] 55)).drew.cell? ⟨w5.heap.size, 1, none⟩ = some (.bool P.constant) ∧ (w5.alloc (.cells #[.bool P.truth, .bool P.constant, .int .u32 P.value] 55)).drew.cell? ⟨w5.heap.size, 2, none⟩ = some (.int .u32 P.value) ∧ kb < (w5.alloc (.cells #[.bool P.truth, .bool P.constant, .int .u32 P.value] 55)).drew.heap.size ∧ w5.heap.size < (w5.alloc (.cells #[.bool P.truth, .bool P.constant, .int .u32 P.value] 55)).drew.heap.size := by
  have hB : Below w5.heap.size w5 (w5.alloc (.cells #[.bool P.truth, .bool P.constant, .int .u32 P.value] 55)).drew := ((Below.refl _ w5).alloc (Nat.le_refl _) _).drew
  have hl := World.block_lt_of_cell? w5 _ k2
  have hh : (w5.alloc (.cells #[.bool P.truth, .bool P.constant, .int .u32 P.value] 55)).drew.heap[w5.heap.size]? = some (.cells #[.bool P.truth, .bool P.constant, .int .u32 P.value] 55 (0, 0)) := heap_alloc_new w5 _
  have hs : w5.heap.size < (w5.alloc (.cells #[.bool P.truth, .bool P.constant, .int .u32 P.value] 55)).drew.heap.size := by show _ < (w5.alloc _).heap.size; simp
  exact ⟨(hB.cell hl).trans k2, (hB.frozen hl).trans k2f, by rw [cell_of_row _ _ 0 _ _ _ hh]; rfl, by rw [cell_of_row _ _ 1 _ _ _ hh]; rfl, by rw [cell_of_row _ _ 2 _ _ _ hh]; rfl, Nat.lt_of_lt_of_le hl (Nat.le_of_lt hs), hs⟩
/-- A slice of nodes whose numbers are such as their types allow. -/
structure NodesOk (ns : List Node) : Prop where
  bytes : ∀ n ∈ ns, n.bytes
  u32 : ∀ n ∈ ns, isU32 n.n
  len : ns.length ≤ 1954687338260
def oneB (st : List Int) : Bool := decide (0 < st.length ∧ st.getD (st.length - 1) 0 = 0)
/-- The way through a list: the place, the error; where trees begin; the trees. -/
def runT : List Node → Int → List Int → List Part → Int × Int × List Int × List Part
  | [], at_, st, ps => if oneB st then (0, 0, st, ps) else (at_, 120, st, ps)
  | n :: ns, at_, st, ps => if (stepT n st ps).1 ≠ 0 then (at_, (stepT n st ps).1, st, ps) else runT ns (at_ + 1) (stepT n st ps).2.1 (stepT n st ps).2.2
theorem addL_len {st st2 : List Int} {a : Nat} (h : addL st a = some st2) : st2.length = st.length + 1 := by
  unfold addL at h
  cases hd : downs st a st.length with
  | none => rw [hd] at h; cases h
  | some r => rw [hd] at h; cases h; simp
theorem stepT_len {n : Node} {st : List Int} {ps : List Part} (h : (stepT n st ps).1 = 0) : (stepT n st ps).2.1.length = st.length + 1 := by
  unfold stepT at h ⊢
  cases ha : arityK n.kind with
  | none => rw [ha] at h; cases h
  | some a =>
    simp only [ha] at h ⊢
    cases hb : addL st a with
    | none => rw [hb] at h; cases h
    | some st2 =>
      have := addL_len hb
      simp only [hb] at h ⊢
      by_cases h1 : unusedB n.kind n = false
      · rw [if_pos h1] at h; cases h
      · rw [if_neg h1] at h ⊢
        by_cases h2 : (madeL n (truthK n.kind) (wantsK n.kind) (kidsL a st ps)).2 ≠ 0
        · rw [if_pos h2] at h; exact absurd h h2
        · rw [if_neg h2] at h ⊢
          by_cases h3 : fitsB n.kind n = false
          · rw [if_pos h3] at h; cases h
          · rw [if_neg h3] at h ⊢
            by_cases h4 : n.kind = 15 ∧ wholeB n = false
            · rw [if_pos h4] at h; cases h
            · rw [if_neg h4]
              exact this
theorem WalkAt.later {r hi kb : Nat} {st : List Int} {ps : List Part} {w W : World} (h : WalkAt r hi kb st ps w) (hb : Below w.heap.size w W) : WalkAt r hi kb st ps W := by
  obtain ⟨vs, vp, hR⟩ := h.row
  have hk := (Array.getElem?_eq_some_iff.1 hR.row).1
  refine ⟨h.tab.below hb h.tab.size, h.le, ⟨vs, vp, (hb.block _ hk).trans hR.row, own_later hR.st fun b q => hb.block _ (own_lt hR.st q).2, own_later hR.ps fun b q => hb.block _ (own_lt hR.ps q).2, hR.apart⟩, h.starts, h.len, h.u32⟩
theorem walk_start {w w1 : World} {r : Nat} (h : TabN w r 16 w1) : WalkAt r w1.heap.size w1.heap.size [] [] (w1.alloc (.cells #[.map (some r), .slice none 0 0, .slice none 0 0] 61)) := by
  have hb : Below w1.heap.size w1 (w1.alloc (.cells #[.map (some r), .slice none 0 0, .slice none 0 0] 61)) := (Below.refl _ w1).alloc (Nat.le_refl _) _
  refine ⟨TabAt.below ⟨?_, h.lt, Nat.le_refl _⟩ hb (Nat.le_refl _), Nat.le_refl _, ⟨_, _, heap_alloc_new w1 _, World.ownsRow_nil _ _ _ _, World.ownsRow_nil _ _ _ _, (fun b e => by cases e)⟩, (fun i hi => by cases hi), rfl, (fun p hp => by cases hp)⟩
  exact h.out
end Go.Proofs.Ytedhlofmkehfkaa
