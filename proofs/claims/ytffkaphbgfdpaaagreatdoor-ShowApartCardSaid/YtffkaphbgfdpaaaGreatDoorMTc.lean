/- TLawSpoil, TOf, TParts, TLawWhole, Nd, Tr, TAwake, TOpen, TApp, TFirstW, TWholeW, TLawParts, TRefParts, one behind the other. -/
import Derived.Test.YtffkaphbgfdpaaaGreatDoorMTb
import Derived.Deep.RegionLawGrows
import Derived.Deep.DeepCutAuto
import Derived.Deep.CutBlock
import Derived.Test.YtffkaphbgfdpaaaGreatDoorMTa
import Derived.Deep.Slices
import Derived.OpenShut
import Derived.SizedLaws
import Derived.ShutString
import Derived.ChangeOld
import Derived.Below
import Derived.Deep.RegionLaw
section
/- A node's field spoilt: plain. -/
namespace Go.Proofs.YtffkaphbgfdpaaaGreatDoor.T
open Go.RowKit Go.Shelf
set_option linter.unusedVariables false
set_option maxRecDepth 100000
set_option linter.unusedSimpArgs false

/-- The node, one of its fields spoilt that its kind does not use, or its kind. -/
def spoilN (h l : Int) (x : Node) : Node :=
  if h = 0 then { x with kind := 17 + l % 9 } else
  if h = 1 then { x with kind := -x.kind } else
  if h = 2 then (if x.kind = 4 ∨ x.kind = 6 then { x with op := 11 } else { x with op := 1 }) else
  if h = 3 then (if x.kind ≠ 3 then { x with size := 1 } else { x with of := 13 }) else
  if h = 4 then (if x.kind ≠ 15 then { x with bits := -1 } else { x with side := 3 }) else
  (if x.kind ≠ 14 ∧ x.kind ≠ 15 then { x with addr := { x.addr with b0 := 1 } } else { x with of := 4 })
theorem sixteen {k : Int} (h : ∃ a, arityK k = some a) : k = 1 ∨ k = 2 ∨ k = 3 ∨ k = 4 ∨ k = 5 ∨ k = 6 ∨ k = 7 ∨ k = 8 ∨ k = 9 ∨ k = 10 ∨ k = 11 ∨ k = 12 ∨ k = 13 ∨ k = 14 ∨ k = 15 ∨ k = 16 := by
  obtain ⟨a, ha⟩ := h
  have := arityK_range ha
  omega
theorem spoil_op {n : Node} (h : ∃ a, arityK n.kind = some a) : unusedB n.kind (if n.kind = 4 ∨ n.kind = 6 then { n with op := 11 } else { n with op := 1 }) = false := by
  rcases sixteen h with e | e | e | e | e | e | e | e | e | e | e | e | e | e | e | e <;> simp [unusedB, onlyB, inR, Node.zero, e]
theorem spoil_size {n : Node} (h : ∃ a, arityK n.kind = some a) : unusedB n.kind (if n.kind ≠ 3 then { n with size := 1 } else { n with of := 13 }) = false := by
  rcases sixteen h with e | e | e | e | e | e | e | e | e | e | e | e | e | e | e | e <;> simp [unusedB, onlyB, inR, Node.zero, e]
theorem spoil_bits {n : Node} (h : ∃ a, arityK n.kind = some a) : unusedB n.kind (if n.kind ≠ 15 then { n with bits := -1 } else { n with side := 3 }) = false := by
  rcases sixteen h with e | e | e | e | e | e | e | e | e | e | e | e | e | e | e | e <;> simp [unusedB, onlyB, inR, netB, Node.zero, e]
theorem spoil_addr {n : Node} (h : ∃ a, arityK n.kind = some a) : unusedB n.kind (if n.kind ≠ 14 ∧ n.kind ≠ 15 then { n with addr := { n.addr with b0 := 1 } } else { n with of := 4 }) = false := by
  rcases sixteen h with e | e | e | e | e | e | e | e | e | e | e | e | e | e | e | e <;> simp [unusedB, onlyB, inR, netB, Node.zero, A16.zero, e]
theorem step_unused {n n2 : Node} {st : List Int} {ps : List Part} (hs : (stepT n st ps).1 = 0) (hk : n2.kind = n.kind) (hu : unusedB n.kind n2 = false) : stepT n2 st ps = (120, st, ps) := by
  obtain ⟨a, st2, ha, hb, _⟩ := stepT_ok hs
  unfold stepT
  rw [hk]
  simp only [ha, hb]
  rw [if_pos hu]
theorem step_nokind {n2 : Node} {st : List Int} {ps : List Part} (h : arityK n2.kind = none) : stepT n2 st ps = (120, st, ps) := by
  unfold stepT
  rw [h]
theorem arityK_no {k : Int} (h : k < 1 ∨ 16 < k) : arityK k = none := by
  unfold arityK
  rw [if_neg (by omega), if_neg (by omega), if_neg (by omega)]
theorem spoil_step {n : Node} {st : List Int} {ps : List Part} {h l : Int} (hs : (stepT n st ps).1 = 0) (hl : 0 ≤ l) : stepT (spoilN h l n) st ps = (120, st, ps) := by
  have hk := stepT_kind hs
  have hr := sixteen hk
  unfold spoilN
  by_cases h0 : h = 0
  · rw [if_pos h0]
    exact step_nokind (arityK_no (.inr (by show 16 < 17 + l % 9; omega)))
  rw [if_neg h0]
  by_cases h1 : h = 1
  · rw [if_pos h1]
    exact step_nokind (arityK_no (.inl (by show -n.kind < 1; omega)))
  rw [if_neg h1]
  by_cases h2 : h = 2
  · rw [if_pos h2]
    exact step_unused hs (by split <;> rfl) (spoil_op hk)
  rw [if_neg h2]
  by_cases h3 : h = 3
  · rw [if_pos h3]
    exact step_unused hs (by split <;> rfl) (spoil_size hk)
  rw [if_neg h3]
  by_cases h4 : h = 4
  · rw [if_pos h4]
    exact step_unused hs (by split <;> rfl) (spoil_bits hk)
  rw [if_neg h4]
  exact step_unused hs (by split <;> rfl) (spoil_addr hk)
/-- The steps up to a place. -/
theorem go_split : ∀ {a b : List Node} {st st2 : List Int} {ps ps2 : List Part}, goT (a ++ b) st ps = some (st2, ps2) → ∃ st1 ps1, goT a st ps = some (st1, ps1) ∧ goT b st1 ps1 = some (st2, ps2)
  | [], b, st, st2, ps, ps2, h => ⟨st, ps, rfl, h⟩
  | n :: a, b, st, st2, ps, ps2, h => by
    have h : goT (n :: (a ++ b)) st ps = some (st2, ps2) := h
    rw [goT_cons] at h
    by_cases hs : (stepT n st ps).1 ≠ 0
    · rw [if_pos hs] at h; cases h
    · rw [if_neg hs] at h
      obtain ⟨st1, ps1, h1, h2⟩ := go_split h
      exact ⟨st1, ps1, by rw [goT_cons, if_neg hs]; exact h1, h2⟩
theorem list_split {ns : List Node} {i : Nat} (hi : i < ns.length) : ns = ns.take i ++ ns.getD i Node.zero :: ns.drop (i + 1) := by
  have e : ns.getD i Node.zero = ns[i] := by simp [List.getD_eq_getElem?_getD, List.getElem?_eq_getElem hi]
  rw [e, ← List.drop_eq_getElem_cons hi, List.take_append_drop]
theorem list_set {ns : List Node} {i : Nat} (hi : i < ns.length) (x : Node) : ns.set i x = ns.take i ++ x :: ns.drop (i + 1) := by
  rw [List.set_eq_take_append_cons_drop, if_pos hi]
theorem spoil_check {ns : List Node} {i : Nat} {h l : Int} (hok : (checkT ns).2 = 0) (hi : i < ns.length) (hl : 0 ≤ l) : checkT (ns.set i (spoilN h l (ns.getD i Node.zero))) = ((i : Int), 120) := by
  obtain ⟨h1, _, _⟩ := check_ok hok
  have hg := (tree_of h1).go
  rw [list_split hi] at hg
  obtain ⟨st1, ps1, g1, g2⟩ := go_split hg
  rw [← list_split hi] at g2
  have hs : (stepT (ns.getD i Node.zero) st1 ps1).1 = 0 := by
    rw [goT_cons] at g2
    by_cases hc : (stepT (ns.getD i Node.zero) st1 ps1).1 ≠ 0
    · rw [if_pos hc] at g2; cases g2
    · simpa using hc
  have he := check_err g1 (spoil_step (h := h) hs hl) (by decide) (ns.drop (i + 1))
  rw [list_set hi, he, List.length_take]
  congr 2
  omega
end Go.Proofs.YtffkaphbgfdpaaaGreatDoor.T
end

section
/- tree.Of. -/
namespace Go.Proofs.YtffkaphbgfdpaaaGreatDoor.T
open Go.RowKit Go.Shelf
set_option linter.unusedVariables false
set_option maxRecDepth 100000
set_option linter.unusedSimpArgs false

/-- Where the trees of a list begin. -/
def ofT : List Node → List Int → Option (List Int)
  | [], st => some st
  | n :: ns, st => match arityK n.kind with
    | none => none
    | some a => match addL st a with
      | none => none
      | some st2 => ofT ns st2
theorem intInfos : (Tryz.prog.info? 3).map (fun i => (i.zero, i.size, i.bytes)) = some (some (.int .i64 0), 1, 8) := by kernel_rfl
set_option maxRecDepth 100000 in
set_option maxHeartbeats 1600000 in
theorem of_any (A : Option Addr) (c : Nat) (ns : List Node) (w : World) (hA : Ns w A ns) (hnl : ns.length ≤ 1954687338260) :
    Calls Tryz.prog 29 #[.slice A ns.length c] w fun e w' => Below w.heap.size w w' ∧
      ((ofT ns [] = none ∧ e = .returned (.tuple #[.slice none 0 0, .bool false])) ∨
       (∃ st v, ofT ns [] = some st ∧ e = .returned (.tuple #[v, .bool (oneB st)]) ∧ OwnI w' w.heap.size v st ∧ StartsOk st ∧ st.length = ns.length)) := by
  obtain ⟨i0, hi0, hz0, hz1, hz2⟩ := info_parts intInfos
  have Hz0 := Lib.hid hz0
  have Hz1 := Lib.hid hz1
  have Hz2 := Lib.hid hz2
  have HA := Lib.hid hA
  clear hz0 hz1 hz2 hA
  go_enter Tryz.func29, Tryz.ntmps29
  go_wp2_with (refine wpList_make_own _ rfl _ _ 54 rfl w.heap.size 3 i0 (.int .i64 0) 1 Tryz.underlying54 hi0 Hz0.out Hz1.out .i64 .i64 _ ns.length rfl rfl rfl (by rw [Hz2.out]; omega) (by simp only [maxLen]; omega) (Nat.le_refl _) ?_; intro w1 hown hgrow; refine Hid.out ?_)
  refine Lib.hid ?_
  have hB1 : Below w.heap.size w w1 := (Below.refl _ w).grown hgrow (Nat.le_refl _) (fun k e => by cases e)
  have HO1 := Lib.hid hown
  have HB1 := Lib.hid hB1
  clear hown hgrow hB1
  go_wp2_with fail
  go_loopw [14, 4] (fun x y wr => ∃ (i : Nat) (st : List Int) (yA : Option Addr) (yc : Nat), i ≤ ns.length ∧ x = .int .i64 i ∧ y = .slice yA st.length yc ∧ st.length = i ∧ ofT (ns.drop i) st = ofT ns [] ∧ Below w.heap.size w wr ∧ OwnI wr w.heap.size (.slice yA st.length yc) st ∧ StartsOk st) (fun x _ _ => ns.length - (intOf x).toNat)
  case atStart => exact ⟨0, [], _, _, by omega, rfl, rfl, rfl, rfl, HB1.out, HO1.out, fun i hi => by cases hi⟩
  case round =>
    obtain ⟨i, st, yA, yc, hi', rfl, rfl, hst, hrun, hB2, hO2, hs2⟩ := hrel
    have Hst := Lib.hid hst
    have Hrun := Lib.hid hrun
    have HB2 := Lib.hid hB2
    have HO2 := Lib.hid hO2
    have HS2 := Lib.hid hs2
    clear hst hrun hB2 hO2 hs2
    by_cases hlt : i < ns.length
    · obtain ⟨b, o, rfl, hn⟩ := (HA.out.later HB2.out) (by omega)
      have h1 := hn i hlt
      have hdrop : ns.drop i = ns.getD i Node.zero :: ns.drop (i + 1) := by
        rw [List.drop_eq_getElem_cons hlt, List.getD_eq_getElem?_getD, List.getElem?_eq_getElem hlt]
        rfl
      obtain ⟨n, hnn⟩ : ∃ n, ns.getD i Node.zero = n := ⟨_, rfl⟩
      rw [hnn] at h1 hdrop
      have i2 : (0 : Int) ≤ (i : Int) := by omega
      have i3 : (i : Int) < (ns.length : Int) := by omega
      have hrun2 := Hrun.out
      rw [hdrop] at hrun2
      simp only [ofT] at hrun2
      have hB3 : Below w.heap.size w (wr.alloc (.cells (enc n) 37)) := HB2.out.alloc HB2.out.size _
      have HB3 := Lib.hid hB3
      clear hn hnn hdrop hB3
      cases har : arityK n.kind with
      | none =>
        rw [har] at hrun2
        have Hrun2 := Lib.hid hrun2
        clear hrun2
        go_wp2_with fail
        refine (arity_any _ _).mono ?_
        rw [har]
        rintro e w3 ⟨rfl, rfl⟩
        go_wp2_with fail
        go_ret2
        exact ⟨HB3.out, .inl ⟨Hrun2.out.symm, rfl⟩⟩
      | some a =>
        have hkr := arityK_range har
        rw [har] at hrun2
        simp only at hrun2
        go_wp2_with fail
        refine (arity_any _ _).mono ?_
        rw [har]
        rintro e w3 ⟨rfl, rfl⟩
        go_wp2_with fail
        have hO3 : OwnI (wr.alloc (.cells (enc n) 37)) w.heap.size (.slice yA st.length yc) st := own_later HO2.out fun b hb => Below.heap_alloc _ _ _ (own_lt HO2.out hb).2
        cases hadd : addL st a with
        | none =>
          rw [hadd] at hrun2
          have Hrun2 := Lib.hid hrun2
          clear hrun2
          refine (add_no w.heap.size _ st a _ hO3 HS2.out hkr.2.2 (by have := Hst.out; omega) hadd).mono ?_
          rintro e w4 ⟨rfl, rfl⟩
          clear hO3
          go_wp2_with fail
          go_ret2
          exact ⟨HB3.out, .inl ⟨Hrun2.out.symm, rfl⟩⟩
        | some st2 =>
          rw [hadd] at hrun2
          simp only at hrun2
          have Hrun2 := Lib.hid hrun2
          clear hrun2
          have hl2 := addL_len hadd
          refine (add_yes w.heap.size _ st st2 a _ hO3 HS2.out hkr.2.2 (by have := Hst.out; omega) HB3.out.size hadd).mono ?_
          rintro e w4 ⟨v2, rfl, hown, hgrow, hob, hst2⟩
          obtain ⟨A2, c2, rfl, -⟩ := hown.form
          have hB4 : Below w.heap.size w w4 := HB3.out.grown hgrow HB3.out.size fun k e => (own_lt hO3 e).1
          have HB4 := Lib.hid hB4
          have HO4 := Lib.hid hown
          have HS4 := Lib.hid hst2
          have Hl2 := Lib.hid hl2
          clear hO3 hgrow hob hst2 hB4 hl2 hown
          go_wp2_with fail
          go_round
          case rel => exact ⟨i + 1, st2, A2, c2, by omega, by go_num, rfl, by rw [Hl2.out, Hst.out], Hrun2.out, HB4.out, HO4.out, HS4.out⟩
          case measure => simp [intOf]; omega
    · have Hie := Lib.hid (show i = ns.length by omega)
      have hrun2 := Hrun.out
      rw [List.drop_of_length_le (by omega)] at hrun2
      simp only [ofT] at hrun2
      have hi1 : ¬ (i : Int) < (ns.length : Int) := by omega
      have Hrun2 := Lib.hid hrun2
      clear hrun2
      go_wp2_with fail
      have HOne : Calls Tryz.prog 48 #[.slice yA st.length yc] wr fun e w' => e = .returned (.bool (oneB st)) ∧ wr = w' := one_any _ w.heap.size st _ HO2.out (by have := Hst.out; omega)
      refine HOne.mono ?_
      rintro e w3 ⟨rfl, rfl⟩
      go_wp2_with fail
      go_ret2
      exact ⟨HB2.out, .inr ⟨st, _, Hrun2.out.symm, rfl, HO2.out, HS2.out, by rw [Hst.out, Hie.out]⟩⟩
end Go.Proofs.YtffkaphbgfdpaaaGreatDoor.T
end

section
/- types.Parts. -/
namespace Go.Proofs.YtffkaphbgfdpaaaGreatDoor.T
open Go.RowKit Go.Shelf
set_option linter.unusedVariables false
set_option maxRecDepth 100000
set_option linter.unusedSimpArgs false

/-- The parts of a list. -/
def partsT (ns : List Node) : Option (List (List Node)) :=
  match ofT ns [] with
  | none => none
  | some st =>
    if oneB st = false then none
    else match (arityK (ns.getD (ns.length - 1) Node.zero).kind).getD 0 with
      | 0 => some []
      | 1 => some [ns.take (ns.length - 1)]
      | _ => some [ns.take (st.getD (ns.length - 2) 0).toNat, (ns.take (ns.length - 1)).drop (st.getD (ns.length - 2) 0).toNat]
/-- A slice of slices of nodes that a call has made: where each lies. -/
structure OwnNN (w : World) (base : Nat) (g : Nat) (ls : List (List Node)) (gs : List (Nat × Nat)) : Prop where
  len : gs.length = ls.length
  lt : base ≤ g
  row : ∀ i, i < ls.length → w.cell? ⟨g, i, none⟩ = some (.slice (some ⟨(gs.getD i (0, 0)).1, 0, none⟩) (ls.getD i []).length (gs.getD i (0, 0)).2)
  own : ∀ i, i < ls.length → OwnN w base (.slice (some ⟨(gs.getD i (0, 0)).1, 0, none⟩) (ls.getD i []).length (gs.getD i (0, 0)).2) (ls.getD i [])
  apart : ∀ i, i < ls.length → (gs.getD i (0, 0)).1 ≠ g
  apart2 : ∀ i j, i < ls.length → j < ls.length → i ≠ j → (gs.getD i (0, 0)).1 ≠ (gs.getD j (0, 0)).1
theorem sliceInfos : (Tryz.prog.info? 22).map (fun i => (i.zero, i.size, i.bytes)) = some (some (.slice none 0 0), 1, 24) := by kernel_rfl
theorem Ns.prefix {w : World} {A : Option Addr} {ns : List Node} (h : Ns w A ns) (k : Nat) : Ns w A (ns.take k) := Ns.take (l2 := ns.drop k) (by rw [List.take_append_drop]; exact h)
theorem downs_one {st : List Int} {q : Int} (h : downs st 1 st.length = some q) : 0 < st.length := by
  rcases Nat.eq_zero_or_pos st.length with h0 | h0
  · simp [downs, h0] at h
  · exact h0
theorem own_mono {w : World} {base base' sz n : Nat} {e : TypeId} {v : Value} {xs : List Value} (h : w.ownsRow base e sz v n xs) (hb : base' ≤ base) : w.ownsRow base' e sz v n xs := by
  refine ⟨h.1, ?_⟩
  rcases h.2 with h | ⟨g, cap, cur, rfl, h1, h2⟩
  · exact .inl h
  · exact .inr ⟨g, cap, cur, rfl, Nat.le_trans hb h1, h2⟩
/-- A copy of some nodes, as a step of a region that draws its order. -/
theorem step_copy {ops : Array Oper} {o : Oper} {a : Act} {V : World} {K : Act → World → Prop} {Q : Exit → Act → World → Prop} {E : Prop} (hg : o.guard = none) (s x : Operand)
    (hop : o.op = Op.call { callee := Callee.builtin Builtin.append, args := #[s, x], argTypes := #[22, 22] }) (w0 : World) (eb : Nat) (ad : Addr) (c : Nat) (l : List Node)
    (hs : a.eval s = .slice (some ⟨eb, 0, none⟩) 0 0) (m : Nat) (hx : a.eval x = .slice (some ad) m c) (hb : Below w0.heap.size w0 V) (hc : ∀ k u, (flat l)[k]? = some u → w0.cell? (ad.add k) = some u) (had : ad.block < w0.heap.size) (hm : m = l.length) (hl0 : 0 < l.length) (hl : l.length ≤ 1954687338260)
    (hK : ∀ g cap V', V.heap.size ≤ g → OwnN V' w0.heap.size (.slice (some ⟨g, 0, none⟩) m cap) l → Below V.heap.size V V' → Below w0.heap.size w0 V' → K (a.put o.dst (.slice (some ⟨g, 0, none⟩) m cap)) V') :
    if Region.wanted o (yielded ops a.tmps) = true then Oper.wp Tryz.prog o a V K Q else E := by
  obtain ⟨i0, hi0, hz0, hz1, hz2⟩ := info_parts nodeInfos
  subst hm
  refine step_append_grows hg s x _ hop 37 i0 (.agg (enc Node.zero)) 24 72 Tryz.underlying22 hi0 hz0 hz1 hz2 rfl (by decide) (some ⟨eb, 0, none⟩) 0 0 [] hs (fun e => by cases e) rfl (fun b hb j u hu => by cases hu) ad l.length c (flat l) hx (flat_length l)
    (fun j u hu => (hb.cell (by rw [add_block]; exact had)).trans (hc j u hu)) (flat_one l) (by omega) (by simp only [maxLen]; omega) (by omega) ?_
  intro v' V' hown hgrow
  obtain ⟨g, cap, rfl, hg1, hg2⟩ := hown.form (by omega)
  rw [Nat.zero_add, List.nil_append] at hown
  rw [Nat.zero_add]
  have hb2 : Below V.heap.size V V' := (Below.refl _ V).grown hgrow (Nat.le_refl _) (fun k e => by cases e)
  exact hK g cap V' hg1 (own_mono hown hb.size) hb2 (hb.trans (hb2.mono hb.size))
theorem ofT_snoc (n : Node) : ∀ (ns : List Node) (st0 : List Int), ofT (ns ++ [n]) st0 = (ofT ns st0).bind fun st1 => (arityK n.kind).bind fun a => addL st1 a
  | [], st0 => by
    show (match arityK n.kind with | none => none | some a => match addL st0 a with | none => none | some st2 => ofT [] st2) = _
    cases arityK n.kind with
    | none => rfl
    | some a =>
      show (match addL st0 a with | none => none | some st2 => some st2) = addL st0 a
      cases addL st0 a <;> rfl
  | m :: ns, st0 => by
    show (match arityK m.kind with | none => none | some a => match addL st0 a with | none => none | some st2 => ofT (ns ++ [n]) st2) = ((match arityK m.kind with | none => none | some a => match addL st0 a with | none => none | some st2 => ofT ns st2).bind _)
    cases arityK m.kind with
    | none => rfl
    | some a =>
      show (match addL st0 a with | none => none | some st2 => ofT (ns ++ [n]) st2) = ((match addL st0 a with | none => none | some st2 => ofT ns st2).bind _)
      cases addL st0 a with
      | none => rfl
      | some st2 => exact ofT_snoc n ns st2
theorem addL_ok {st st2 : List Int} {a : Nat} (hs : StartsOk st) (h : addL st a = some st2) : StartsOk st2 := by
  unfold addL at h
  cases hd : downs st a st.length with
  | none => rw [hd] at h; cases h
  | some r =>
    rw [hd] at h
    cases h
    have := downs_range hs a _ r (by omega) (by omega) hd
    exact hs.snoc this.1 (by omega)
theorem ofT_ok : ∀ (ns : List Node) (st0 st : List Int), StartsOk st0 → ofT ns st0 = some st → StartsOk st ∧ st.length = st0.length + ns.length
  | [], st0, st, hs, h => by cases h; exact ⟨hs, rfl⟩
  | m :: ns, st0, st, hs, h => by
    simp only [ofT] at h
    cases ha : arityK m.kind with
    | none => rw [ha] at h; cases h
    | some a =>
      rw [ha] at h
      simp only at h
      cases hb : addL st0 a with
      | none => rw [hb] at h; cases h
      | some st2 =>
        rw [hb] at h
        have := ofT_ok ns st2 st (addL_ok hs hb) h
        rw [addL_len hb] at this
        exact ⟨this.1, by rw [this.2, List.length_cons]; omega⟩
theorem starts_nil : StartsOk [] := fun i hi => by cases hi
theorem last_eq {ns : List Node} (h : 0 < ns.length) : ns = ns.take (ns.length - 1) ++ [ns.getD (ns.length - 1) Node.zero] := by
  have := take_succ_node (xs := ns) (i := ns.length - 1) (by omega)
  rw [show ns.length - 1 + 1 = ns.length from by omega, List.take_length] at this
  exact this
/-- What is known of a tree whose root has parts. -/
theorem of_parts {ns : List Node} {st : List Int} {a : Nat} (hp : 0 < ns.length) (h : ofT ns [] = some st) (ha : (arityK (ns.getD (ns.length - 1) Node.zero).kind).getD 0 = a) (h1 : 1 ≤ a) :
    2 ≤ ns.length ∧ (a = 2 → 1 ≤ st.getD (ns.length - 2) 0 ∧ st.getD (ns.length - 2) 0 ≤ (ns.length : Int) - 2) := by
  obtain ⟨n, hn⟩ : ∃ n, ns.getD (ns.length - 1) Node.zero = n := ⟨_, rfl⟩
  have hl := last_eq hp
  rw [hn] at hl ha
  rw [hl, ofT_snoc] at h
  cases h2 : ofT (ns.take (ns.length - 1)) [] with
  | none => rw [h2] at h; cases h
  | some st1 =>
    rw [h2] at h
    obtain ⟨hs1, hl1⟩ := ofT_ok _ _ _ starts_nil h2
    rw [List.length_take, List.length_nil] at hl1
    have hl1 : st1.length = ns.length - 1 := by omega
    cases h3 : arityK n.kind with
    | none => rw [h3] at ha; simp at ha; omega
    | some x =>
      rw [h3] at ha h
      simp only [Option.getD_some] at ha
      subst ha
      have h : addL st1 x = some st := h
      unfold addL at h
      cases hd : downs st1 x st1.length with
      | none => rw [hd] at h; cases h
      | some q =>
        rw [hd] at h
        simp only [Option.map_some, Option.some.injEq] at h
        have hst := h
        obtain ⟨m, rfl⟩ : ∃ m, x = m + 1 := ⟨x - 1, by omega⟩
        simp only [downs] at hd
        split at hd
        · cases hd
        · rename_i hne
          refine ⟨by omega, fun h2 => ?_⟩
          obtain rfl : m = 1 := by omega
          simp only [downs] at hd
          split at hd
          · cases hd
          · rename_i hne2
            have e : st.getD (ns.length - 2) 0 = st1.getD (ns.length - 2) 0 := by
              rw [← hst]
              simp [List.getD_eq_getElem?_getD, List.getElem?_append_left (show ns.length - 2 < st1.length by omega)]
            have hr := hs1 (ns.length - 2) (by omega)
            rw [show ((st1.length : Int).toNat - 1) = ns.length - 2 from by omega] at hne2
            rw [e]
            omega
theorem parts_two {w w1 V1 Vp V2 V3 : World} {g1 cap1 g2 cap2 g3 cap3 m1 m2 n3 : Nat} {l1 l2 : List Node} {xs : List Value} (hB : Below w.heap.size w w1) (hB1 : Below w1.heap.size w1 V1) (hO1 : OwnN V1 w1.heap.size (.slice (some ⟨g1, 0, none⟩) m1 cap1) l1) (hp : Below V1.heap.size V1 Vp) (hb2 : Below Vp.heap.size Vp V2) (hg2 : Vp.heap.size ≤ g2)
    (hO2 : OwnN V2 w1.heap.size (.slice (some ⟨g2, 0, none⟩) m2 cap2) l2) (e1 : l1.length = m1) (e2 : l2.length = m2)
    (hgrow3 : (V2.alloc (.cells #[.slice (some ⟨g1, 0, none⟩) m1 cap1, .slice (some ⟨g2, 0, none⟩) m2 cap2] 22)).grownBy V3 none)
    (hO3 : V3.ownsRow (V2.alloc (.cells #[.slice (some ⟨g1, 0, none⟩) m1 cap1, .slice (some ⟨g2, 0, none⟩) m2 cap2] 22)).heap.size 22 1 (.slice (some ⟨g3, 0, none⟩) n3 cap3) n3 xs) (exs : xs = [.slice (some ⟨g1, 0, none⟩) m1 cap1, .slice (some ⟨g2, 0, none⟩) m2 cap2]) :
    Below w.heap.size w V3 ∧ OwnNN V3 w.heap.size g3 [l1, l2] [(g1, cap1), (g2, cap2)] := by
  subst exs
  have hsz : (V2.alloc (.cells #[.slice (some ⟨g1, 0, none⟩) m1 cap1, .slice (some ⟨g2, 0, none⟩) m2 cap2] 22)).heap.size = V2.heap.size + 1 := by simp
  have b3 : Below V2.heap.size V2 V3 := ((Below.refl _ V2).alloc (Nat.le_refl _) _).grown hgrow3 (by omega) (fun k e => by cases e)
  have b13 : Below V1.heap.size V1 V3 := (hp.trans (hb2.mono hp.size)).trans (b3.mono (Nat.le_trans hp.size hb2.size))
  have bw : Below w.heap.size w V3 := (hB.trans (hB1.mono hB.size)).trans (b13.mono (Nat.le_trans hB.size hB1.size))
  have hw1 := hB.size
  have q1 := own_lt hO1 (b := g1) rfl
  have q2 := own_lt hO2 (b := g2) rfl
  have q3 := own_lt hO3 (b := g3) rfl
  have hps := hp.size
  have c0 := World.ownsRow.cells hO3 (g := g3) rfl 0 _ rfl
  have c1 := World.ownsRow.cells hO3 (g := g3) rfl 1 _ rfl
  rw [add_plain] at c0 c1
  have o1 : OwnN V3 w.heap.size (.slice (some ⟨g1, 0, none⟩) m1 cap1) l1 := own_later (own_mono hO1 hw1) fun b hb => b13.block b (own_lt hO1 hb).2
  have o2 : OwnN V3 w.heap.size (.slice (some ⟨g2, 0, none⟩) m2 cap2) l2 := own_later (own_mono hO2 hw1) fun b hb => b3.block b (own_lt hO2 hb).2
  refine ⟨bw, rfl, by omega, ?_, ?_, ?_, ?_⟩
  · intro i hi
    have : i = 0 ∨ i = 1 := by have : i < 2 := hi; omega
    rcases this with rfl | rfl
    · simpa [e1] using c0
    · simpa [e2] using c1
  · intro i hi
    have : i = 0 ∨ i = 1 := by have : i < 2 := hi; omega
    rcases this with rfl | rfl
    · simpa [e1] using o1
    · simpa [e2] using o2
  · intro i hi
    have : i = 0 ∨ i = 1 := by have : i < 2 := hi; omega
    rcases this with rfl | rfl
    · show g1 ≠ g3; omega
    · show g2 ≠ g3; omega
  · intro i j hi hj hne
    have : i = 0 ∨ i = 1 := by have : i < 2 := hi; omega
    have : j = 0 ∨ j = 1 := by have : j < 2 := hj; omega
    have hh : g1 ≠ g2 := by omega
    rcases ‹i = 0 ∨ i = 1› with rfl | rfl <;> rcases ‹j = 0 ∨ j = 1› with rfl | rfl
    · exact absurd rfl hne
    · exact hh
    · exact hh.symm
    · exact absurd rfl hne
set_option maxRecDepth 100000 in
set_option maxHeartbeats 1600000 in
theorem parts_any (A : Option Addr) (c : Nat) (ns : List Node) (w : World) (hA : Ns w A ns) (hnl : ns.length ≤ 1954687338260) (hcap : ns.length ≤ c) :
    Calls Tryz.prog 17 #[.slice A ns.length c] w fun e w' => Below w.heap.size w w' ∧
      ((partsT ns = none ∧ e = .returned (.tuple #[.slice none 0 0, .bool false])) ∨
       (partsT ns = some [] ∧ e = .returned (.tuple #[.slice none 0 0, .bool true])) ∨
       (∃ ls g cap gs, partsT ns = some ls ∧ 0 < ls.length ∧ e = .returned (.tuple #[.slice (some ⟨g, 0, none⟩) ls.length cap, .bool true]) ∧ OwnNN w' w.heap.size g ls gs)) := by
  obtain ⟨i0, hi0, hz0, hz1, hz2⟩ := info_parts nodeInfos
  obtain ⟨j0, hj0, hy0, hy1, hy2⟩ := info_parts sliceInfos
  have Hz0 := Lib.hid hz0
  have Hz1 := Lib.hid hz1
  have Hz2 := Lib.hid hz2
  have Hy0 := Lib.hid hy0
  have Hy1 := Lib.hid hy1
  have Hy2 := Lib.hid hy2
  have HA := Lib.hid hA
  clear hz0 hz1 hz2 hA hy0 hy1 hy2
  go_enter Tryz.func17, Tryz.ntmps17
  go_wp2_with fail
  refine (of_any A c ns _ HA.out hnl).mono ?_
  rintro e w1 ⟨hB, hres⟩
  rcases hres with ⟨hno, rfl⟩ | ⟨st, v, hst, rfl, hown, hs, hlen⟩
  · have hp : partsT ns = none := by simp [partsT, hno]
    have HP := Lib.hid hp
    have HB := Lib.hid hB
    clear hno hp hB
    go_wp2_with fail
    go_ret2
    exact ⟨HB.out, .inl ⟨HP.out, rfl⟩⟩
  · have HB := Lib.hid hB
    have HO := Lib.hid hown
    have HS := Lib.hid hs
    have Hlen := Lib.hid hlen
    have Hst := Lib.hid hst
    clear hB hown hs hlen hst
    cases hob : oneB st with
    | false =>
      have hp : partsT ns = none := by simp [partsT, Hst.out, hob]
      have HP := Lib.hid hp
      clear hp
      go_wp2_with fail
      go_ret2
      exact ⟨HB.out, .inl ⟨HP.out, rfl⟩⟩
    | true =>
      have hpos : 0 < ns.length := by
        have := (of_decide_eq_true hob).1
        have := Hlen.out
        omega
      obtain ⟨b, o, rfl, hn⟩ := (HA.out.later HB.out) hpos
      have h1 := hn (ns.length - 1) (by omega)
      obtain ⟨n, hnn⟩ : ∃ n, ns.getD (ns.length - 1) Node.zero = n := ⟨_, rfl⟩
      rw [hnn] at h1
      have k0 : w1.cell? ⟨b, o + (ns.length - 1) * 24, none⟩ = some (.int .i64 n.kind) := by
        have := nodeIn_of h1 0 _ rfl
        rwa [add_plain, Nat.add_zero] at this
      have i0 : (0 : Int) ≤ (ns.length : Int) - 1 := by omega
      have i1 : (ns.length : Int) - 1 < (ns.length : Int) := by omega
      obtain ⟨ar, har⟩ : ∃ x, arityK n.kind = x := ⟨_, rfl⟩
      have Har := Lib.hid har
      have Hnn := Lib.hid hnn
      clear hn h1 hnn har
      go_wp2_with fail
      refine (arity_any _ _).mono ?_
      rw [Har.out]
      rintro e w2 ⟨rfl, rfl⟩
      obtain ⟨a, ha⟩ : ∃ x, ar.getD 0 = x := ⟨_, rfl⟩
      rw [ha]
      have Ha := Lib.hid ha
      have ha2 : a ≤ 2 := by
        cases ar with
        | none => simp at ha; omega
        | some x => simp at ha; have := arityK_range Har.out; omega
      clear ha
      have h012 : a = 0 ∨ a = 1 ∨ a = 2 := by omega
      rcases h012 with rfl | rfl | rfl
      · have hp : partsT ns = some [] := by
          unfold partsT
          rw [Hst.out]
          simp only [hob, Bool.true_eq_false, if_false, Hnn.out, Har.out, Ha.out]
        have HP := Lib.hid hp
        clear hp
        go_wp2_with fail
        go_ret2
        exact ⟨HB.out, .inr (.inl ⟨HP.out, rfl⟩)⟩
      · have hp : partsT ns = some [ns.take (ns.length - 1)] := by
          unfold partsT
          rw [Hst.out]
          simp only [hob, Bool.true_eq_false, if_false, Hnn.out, Har.out, Ha.out]
        have HP := Lib.hid hp
        have h2 := (of_parts hpos Hst.out (by rw [Hnn.out, Har.out]; exact Ha.out) (Nat.le_refl _)).1
        have hNs := (HA.out.later (HB.out.alloc HB.out.size (.cells #[] 37))).prefix (ns.length - 1)
        have hlt : (ns.take (ns.length - 1)).length = ns.length - 1 := by rw [List.length_take]; omega
        obtain ⟨b', o', e', hc⟩ := hNs.cells (by rw [hlt]; omega)
        cases e'
        have Hc := Lib.hid hc
        have Hlt := Lib.hid hlt
        have i2 : (ns.length : Int) - 1 ≤ (c : Int) := by omega
        clear hp hNs hlt hc
        go_wp2_with (at_builtin; refine wpList_append_grows _ rfl _ _ 22 rfl 37 _ (.agg (enc Node.zero)) 24 72 Tryz.underlying22 hi0 Hz0.out Hz1.out Hz2.out rfl (by decide) (some ⟨w1.heap.size, 0, none⟩) 0 0 [] rfl (fun e => by cases e) rfl (fun b hb j u hu => by cases hu) ⟨b, o, none⟩ (ns.length - 1) c (flat (ns.take (ns.length - 1))) rfl (by rw [flat_length, Hlt.out]) Hc.out (flat_one _) (by omega) (by simp only [maxLen]; omega) (by omega) ?_; intro v2 w2 hown2 hgrow; refine Hid.out ?_)
        refine Lib.hid ?_
        obtain ⟨g1, cap1, rfl, hg1, hg1l⟩ := hown2.form (by omega)
        rw [Nat.zero_add, List.nil_append] at hown2
        have hB2 : Below w.heap.size w w2 := (HB.out.alloc HB.out.size _).grown hgrow (by have := HB.out.size; simp; omega) (fun k e => by cases e)
        have HO2 := Lib.hid hown2
        have HB2 := Lib.hid hB2
        have hnew := Lib.hid (World.news_of_block (heap_alloc_new w2 (.cells #[.slice (some ⟨g1, 0, none⟩) (ns.length - 1) cap1] 22)))
        clear hgrow hB2 hown2
        rw [Nat.zero_add]
        go_wp2_with (at_builtin; refine wpList_append_grows _ rfl _ _ 31 rfl 22 j0 (.slice none 0 0) 1 24 Tryz.underlying31 hj0 Hy0.out Hy1.out Hy2.out rfl (by decide) none 0 0 [] rfl (fun _ => ⟨rfl, rfl⟩) rfl (fun b hb => by cases hb) ⟨w2.heap.size, 0, none⟩ 1 1 [.slice (some ⟨g1, 0, none⟩) (ns.length - 1) cap1] rfl rfl hnew.out (by simp [Value.oneCell']) (by omega) (by simp [maxLen]) (by omega) ?_; intro v3 w3 hown3 hgrow3; refine Hid.out ?_)
        refine Lib.hid ?_
        obtain ⟨g2, cap2, rfl, hg2, hg2l⟩ := hown3.form (by omega)
        rw [Nat.zero_add, List.nil_append] at hown3
        have hsz3 : (w2.alloc (.cells #[.slice (some ⟨g1, 0, none⟩) (ns.length - 1) cap1] 22)).heap.size = w2.heap.size + 1 := by simp
        have hB3 : Below w2.heap.size w2 w3 := ((Below.refl _ w2).alloc (Nat.le_refl _) _).grown hgrow3 (by omega) (fun k e => by cases e)
        have hsz1 : (w1.alloc (.cells #[] 37)).heap.size = w1.heap.size + 1 := by simp
        have hs1 := HB.out.size
        have hs2 := HB2.out.size
        have hcell := World.ownsRow.cells hown3 (g := g2) rfl 0 _ rfl
        rw [add_plain] at hcell
        have hfin : OwnNN w3 w.heap.size g2 [ns.take (ns.length - 1)] [(g1, cap1)] := by
          refine ⟨rfl, by omega, ?_, ?_, ?_, ?_⟩
          · intro i hi
            obtain rfl : i = 0 := by simpa using hi
            simpa [Hlt.out] using hcell
          · intro i hi
            obtain rfl : i = 0 := by simpa using hi
            have h1 := HO2.out
            have h2 : w2.ownsRow w.heap.size 37 24 (.slice (some ⟨g1, 0, none⟩) (ns.length - 1) cap1) (ns.length - 1) (flat (ns.take (ns.length - 1))) := own_mono h1 (by omega)
            have h3 := own_later h2 (W := w3) fun b hb => hB3.block b (own_lt h2 hb).2
            simpa [OwnN, Hlt.out] using h3
          · intro i hi
            obtain rfl : i = 0 := by simpa using hi
            simp
            omega
          · intro i j hi hj hne
            have : i = 0 := by simpa using hi
            have : j = 0 := by simpa using hj
            omega
        have Hfin := Lib.hid hfin
        have HB3 := Lib.hid (HB2.out.trans (hB3.mono hs2))
        clear hfin hcell hB3 hown3 hgrow3
        rw [Nat.zero_add]
        go_wp2_with fail
        go_ret2
        exact ⟨HB3.out, .inr (.inr ⟨_, g2, cap2, _, HP.out, by simp, rfl, Hfin.out⟩)⟩
      · obtain ⟨h2, hcut⟩ := of_parts (a := 2) hpos Hst.out (by rw [Hnn.out, Har.out]; exact Ha.out) (by omega)
        obtain ⟨hc1, hc2⟩ := hcut rfl
        obtain ⟨k, hk⟩ : ∃ k : Nat, st.getD (ns.length - 2) 0 = (k : Int) := ⟨(st.getD (ns.length - 2) 0).toNat, by omega⟩
        rw [hk] at hc1 hc2
        have hp : partsT ns = some [ns.take k, (ns.take (ns.length - 1)).drop k] := by
          unfold partsT
          rw [Hst.out]
          simp only [hob, Bool.true_eq_false, if_false, Hnn.out, Har.out, Ha.out, hk, Int.toNat_natCast]
        have HP := Lib.hid hp
        obtain ⟨vA, vc, rfl, hv⟩ := HO.out.form
        obtain ⟨g0, rfl, _, hv0⟩ := hv (by have := Hlen.out; omega)
        have hLeft : Calls Tryz.prog 31 #[.slice (some ⟨g0, 0, none⟩) st.length vc, .int .i64 ((ns.length : Int) - 1)] w1 fun e w' => e = .returned (.int .i64 ((k : Int) - 1)) ∧ w1 = w' := by
          have e1 : (((ns.length : Int) - 1).toNat - 1) = ns.length - 2 := by omega
          have hl := Hlen.out
          have := left_any (some ⟨g0, 0, none⟩) st.length vc g0 st ((ns.length : Int) - 1) w1 rfl hv0 rfl (by omega) (by omega) (by rw [e1, hk]; omega) (by rw [e1, hk]; omega) (by omega)
          rwa [e1, hk] at this
        have HL := Lib.hid hLeft
        have k1 : 1 ≤ k := by omega
        have k2 : k ≤ ns.length - 2 := by omega
        have hl1 : (ns.take k).length = k := by rw [List.length_take]; omega
        have hl2 : ((ns.take (ns.length - 1)).drop k).length = ns.length - 1 - k := by rw [List.length_drop, List.length_take]; omega
        have hN1 := (HA.out.later HB.out).prefix k
        have hN2 : Ns w1 (some ⟨b, o + k * 24, none⟩) ((ns.take (ns.length - 1)).drop k) := by
          have h := (HA.out.later HB.out).prefix (ns.length - 1)
          have h3 : Ns w1 (some ⟨b, o, none⟩) ((ns.take (ns.length - 1)).take k ++ ((ns.take (ns.length - 1)).drop k ++ [])) := by rw [List.append_nil, List.take_append_drop]; exact h
          have := Ns.sub h3
          rwa [List.length_take, List.length_take, show min k (min (ns.length - 1) ns.length) = k from by omega] at this
        obtain ⟨b', o', e', hC1⟩ := hN1.cells (by omega)
        cases e'
        obtain ⟨b', o', e', hC2⟩ := hN2.cells (by omega)
        cases e'
        have hbl : b < w1.heap.size := by
          obtain ⟨b', o', e', hq⟩ := hN1 (by omega)
          cases e'
          exact nodeAt_lt (hq 0 (by omega))
        have i2 : (0 : Int) ≤ (k : Int) := by omega
        have i3 : (k : Int) ≤ (c : Int) := by omega
        have i4 : (k : Int) ≤ (ns.length : Int) - 1 := by omega
        have i5 : (ns.length : Int) - 1 ≤ (c : Int) := by omega
        have HC1 := Lib.hid hC1
        have HC2 := Lib.hid hC2
        have HL1 := Lib.hid hl1
        have HL2 := Lib.hid hl2
        have Hk := Lib.hid hk
        clear hp hv hv0 hLeft hl1 hl2 hN1 hN2 hC1 hC2 hk hc1 hc2 hcut
        have hck : ¬ c = k := by omega
        go_upto_block 0 with fail
        go_cut [9] (fun s9 W => ∃ g cap gs, s9 = .slice (some ⟨g, 0, none⟩) 2 cap ∧ Below w.heap.size w W ∧ OwnNN W w.heap.size g [ns.take k, (ns.take (ns.length - 1)).drop k] gs)
        case first =>
          go_wp2_with fail
          refine HL.out.mono ?_
          rintro e w2 ⟨rfl, rfl⟩
          go_upto_region 12 with fail
          go_region_law (first
            | (refine step_copy rfl (.tmp 48) (.tmp 51) rfl w1 _ ⟨b, o, none⟩ c (ns.take k) (by rfl) k (by rfl) (by first | assumption | exact Below.drew ((Below.refl _ _).alloc (Nat.le_refl _) _) | exact Below.drew (((Below.refl _ _).alloc (Nat.le_refl _) _).alloc (by simp) _) | exact Below.alloc (by assumption) (Below.size (by assumption)) _) HC1.out hbl HL1.out.symm (by have := HL1.out; omega) (by have := HL1.out; omega) ?_; intro g1 cap1 V1 hg1 hO1 hb1 hB1)
            | (refine step_copy rfl (.tmp 53) (.tmp 57) rfl w1 _ ⟨b, o + k * 24, none⟩ (c - k) ((ns.take (ns.length - 1)).drop k) (by rfl) (ns.length - 1 - k) (by rfl) (by first | assumption | exact Below.drew ((Below.refl _ _).alloc (Nat.le_refl _) _) | exact Below.drew (((Below.refl _ _).alloc (Nat.le_refl _) _).alloc (by simp) _) | exact Below.alloc (by assumption) (Below.size (by assumption)) _) HC2.out hbl HL2.out.symm (by have := HL2.out; omega) (by have := HL2.out; omega) ?_; intro g2 cap2 V2 hg2 hO2 hb2 hB2)
            | (refine step_append_grows rfl (.tmp 47) (.tmp 59) 31 rfl 22 j0 (.slice none 0 0) 1 24 Tryz.underlying31 hj0 Hy0.out Hy1.out Hy2.out rfl (by decide) none 0 0 [] (by rfl) (fun _ => ⟨rfl, rfl⟩) rfl (fun b hb => by cases hb) _ 2 2 [.slice (some ⟨g1, 0, none⟩) k cap1, .slice (some ⟨g2, 0, none⟩) (ns.length - 1 - k) cap2] (by rfl) rfl (World.news_of_block (heap_alloc_new _ _)) (by simp [Value.oneCell']) (by omega) (by simp [maxLen]) (by omega) ?_; intro v3 V3 hO3 hgrow3; obtain ⟨g3, cap3, rfl, hg3, hg3l⟩ := hO3.form (by omega)))
          all_goals
            have hfin := parts_two HB.out hB1 hO1 (by first | exact Below.refl _ _ | exact (Below.refl _ _).alloc (Nat.le_refl _) _) hb2 hg2 hO2 HL1.out HL2.out hgrow3 hO3 rfl
            have Hfin := Lib.hid hfin
            clear hfin hB1 hO1 hb1 hg1 hb2 hg2 hO2 hB2 hgrow3 hO3 hg3 hg3l
            go_wp2_with fail
            go_meet
            exact ⟨g3, cap3, _, rfl, Hfin.out.1, Hfin.out.2⟩
        case rest =>
          obtain ⟨g, cap, gs, rfl, hBB, hNN⟩ := hcut
          have HBB := Lib.hid hBB
          have HNN := Lib.hid hNN
          clear hBB hNN
          go_wp2_with fail
          go_ret2
          exact ⟨HBB.out, .inr (.inr ⟨_, g, cap, gs, HP.out, by simp, rfl, HNN.out⟩)⟩
end Go.Proofs.YtffkaphbgfdpaaaGreatDoor.T
end

section
/- A tree's parts: plain. -/
namespace Go.Proofs.YtffkaphbgfdpaaaGreatDoor.T
open Go.RowKit Go.Shelf
set_option linter.unusedVariables false
set_option maxRecDepth 100000
set_option linter.unusedSimpArgs false

theorem ofT_of_go : ∀ {ns : List Node} {st st2 : List Int} {ps ps2 : List Part}, goT ns st ps = some (st2, ps2) → ofT ns st = some st2
  | [], st, st2, ps, ps2, h => by cases h; rfl
  | n :: ns, st, st2, ps, ps2, h => by
    rw [goT_cons] at h
    by_cases hc : (stepT n st ps).1 ≠ 0
    · rw [if_pos hc] at h; cases h
    · rw [if_neg hc] at h
      obtain ⟨a, st3, ha, hb, _, _, _, _, e⟩ := stepT_ok (by simpa using hc)
      rw [e] at h
      simp only [ofT, ha, hb]
      exact ofT_of_go h
/-- Trees lie within each other or apart. -/
def Lam (st : List Int) : Prop := ∀ i j, i < st.length → j ≤ i → st.getD i 0 ≤ j → st.getD i 0 ≤ st.getD j 0
theorem Lam.nil : Lam [] := fun i j hi => by cases hi
theorem downs_lam {st : List Int} (hs : StartsOk st) (hl : Lam st) : ∀ (a : Nat) (at_ r : Int), 0 ≤ at_ → at_ ≤ st.length → downs st a at_ = some r → ∀ j : Nat, r ≤ j → (j : Int) < at_ → r ≤ st.getD j 0
  | 0, at_, r, h0, h1, h, j, hj1, hj2 => by
    simp only [downs, Option.some.injEq] at h
    omega
  | a + 1, at_, r, h0, h1, h, j, hj1, hj2 => by
    unfold downs at h
    by_cases hz : at_ = 0
    · rw [if_pos hz] at h; cases h
    · rw [if_neg hz] at h
      have hi : at_.toNat - 1 < st.length := by omega
      have hb := hs _ hi
      have hr := downs_range hs a _ r hb.1 (by omega) h
      by_cases hj : (j : Int) < st.getD (at_.toNat - 1) 0
      · exact downs_lam hs hl a _ r hb.1 (by omega) h j hj1 hj
      · have := hl (at_.toNat - 1) j hi (by omega) (by omega)
        omega
theorem addL_lam {st st2 : List Int} {a : Nat} (hs : StartsOk st) (hl : Lam st) (h : addL st a = some st2) : Lam st2 := by
  unfold addL at h
  cases hd : downs st a st.length with
  | none => rw [hd] at h; cases h
  | some r =>
    rw [hd] at h
    cases h
    have hr := downs_range hs a _ r (by omega) (Int.le_refl _) hd
    intro i j hi hj hle
    have g1 : ∀ x, x < st.length → (st ++ [r]).getD x 0 = st.getD x 0 := fun x hx => by
      simp only [List.getD_eq_getElem?_getD]
      rw [List.getElem?_append_left hx]
    have g2 : (st ++ [r]).getD st.length 0 = r := by simp [List.getD_eq_getElem?_getD]
    rw [List.length_append, List.length_cons, List.length_nil] at hi
    by_cases hi2 : i < st.length
    · rw [g1 i hi2] at hle ⊢
      rw [g1 j (by omega)]
      exact hl i j hi2 hj hle
    · have : i = st.length := by omega
      subst this
      rw [g2] at hle ⊢
      by_cases hj2 : j < st.length
      · rw [g1 j hj2]
        exact downs_lam hs hl a _ r (by omega) (Int.le_refl _) hd j hle (by omega)
      · have : j = st.length := by omega
        subst this
        rw [g2]
        exact Int.le_refl _
theorem go_lam : ∀ {ns : List Node} {st st2 : List Int} {ps ps2 : List Part}, StartsOk st → Lam st → goT ns st ps = some (st2, ps2) → Lam st2
  | [], st, st2, ps, ps2, hs, hl, h => by cases h; exact hl
  | n :: ns, st, st2, ps, ps2, hs, hl, h => by
    rw [goT_cons] at h
    by_cases hc : (stepT n st ps).1 ≠ 0
    · rw [if_pos hc] at h; cases h
    · rw [if_neg hc] at h
      have hc0 : (stepT n st ps).1 = 0 := by simpa using hc
      obtain ⟨a, st3, ha, hb, _, _, _, _, e⟩ := stepT_ok hc0
      refine go_lam (step_starts hs hc0) ?_ h
      rw [e]
      exact addL_lam hs hl hb
/-- A run keeps the starts that were there. -/
theorem go_prefix : ∀ {ns : List Node} {st st2 : List Int} {ps ps2 : List Part}, goT ns st ps = some (st2, ps2) → ∀ j, j < st.length → st2.getD j 0 = st.getD j 0
  | [], st, st2, ps, ps2, h, j, hj => by cases h; rfl
  | n :: ns, st, st2, ps, ps2, h, j, hj => by
    rw [goT_cons] at h
    by_cases hc : (stepT n st ps).1 ≠ 0
    · rw [if_pos hc] at h; cases h
    · rw [if_neg hc] at h
      have hc0 : (stepT n st ps).1 = 0 := by simpa using hc
      obtain ⟨a, st3, ha, hb, _, _, _, _, e⟩ := stepT_ok hc0
      rw [e] at h
      unfold addL at hb
      cases hd : downs st a st.length with
      | none => rw [hd] at hb; cases hb
      | some r =>
        rw [hd] at hb
        cases hb
        rw [go_prefix h j (by rw [List.length_append]; omega)]
        simp only [List.getD_eq_getElem?_getD]
        rw [List.getElem?_append_left hj]
/-- The way down, back from a longer list. -/
theorem downs_unshift {st0 st : List Int} (h0 : StartsOk st0) (hs : StartsOk st) (hsa : StartsOk (st0 ++ mv st0.length st)) : ∀ (a : Nat) (at_ r : Int), 0 ≤ at_ → at_ ≤ st.length → downs (st0 ++ mv st0.length st) a (at_ + (st0.length : Int)) = some r → (st0.length : Int) ≤ r → downs st a at_ = some (r - (st0.length : Int))
  | 0, at_, r, hn, h1, h, hr => by
    simp only [downs, Option.some.injEq] at h ⊢
    omega
  | a + 1, at_, r, hn, h1, h, hr => by
    unfold downs at h ⊢
    by_cases hz : at_ = 0
    · exfalso
      subst hz
      by_cases hk : (0 : Int) + (st0.length : Int) = 0
      · rw [if_pos hk] at h; cases h
      · rw [if_neg hk] at h
        have hi : ((0 : Int) + (st0.length : Int)).toNat - 1 < st0.length := by omega
        have e : (st0 ++ mv st0.length st).getD (((0 : Int) + (st0.length : Int)).toNat - 1) 0 = st0.getD (((0 : Int) + (st0.length : Int)).toNat - 1) 0 := by
          simp only [List.getD_eq_getElem?_getD]
          rw [List.getElem?_append_left hi]
        rw [e] at h
        have hb := h0 _ hi
        have := downs_range hsa a _ r hb.1 (by rw [List.length_append]; omega) h
        omega
    · rw [if_neg (by omega)] at h
      rw [if_neg hz]
      have hi : at_.toNat - 1 < st.length := by omega
      have e : (at_ + (st0.length : Int)).toNat - 1 = st0.length + (at_.toNat - 1) := by omega
      rw [e, mv_get hi] at h
      have hb := hs _ hi
      exact downs_unshift h0 hs hsa a _ r hb.1 (by omega) h hr
theorem starts_append {st0 st : List Int} (h0 : StartsOk st0) (hs : StartsOk st) : StartsOk (st0 ++ mv st0.length st) := by
  intro i hi
  rw [List.length_append, mv_len] at hi
  by_cases h : i < st0.length
  · have e : (st0 ++ mv st0.length st).getD i 0 = st0.getD i 0 := by
      simp only [List.getD_eq_getElem?_getD]
      rw [List.getElem?_append_left h]
    rw [e]
    exact h0 i h
  · obtain ⟨j, rfl⟩ : ∃ j, i = st0.length + j := ⟨i - st0.length, by omega⟩
    rw [mv_get (by omega)]
    have := hs j (by omega)
    omega
theorem step_unshift {n : Node} {st0 st S2 : List Int} {ps0 ps P2 : List Part} (h0 : StartsOk st0) (hs : StartsOk st) (hp : ps0.length = st0.length) (h : stepT n (st0 ++ mv st0.length st) (ps0 ++ ps) = (0, S2, P2)) (hlast : (st0.length : Int) ≤ S2.getD (st0.length + st.length) 0) :
    (stepT n st ps).1 = 0 := by
  obtain ⟨a, st2, ha, hb, h1, h2, h3, h4, e⟩ := stepT_ok (show (stepT n (st0 ++ mv st0.length st) (ps0 ++ ps)).1 = 0 by rw [h])
  rw [e] at h
  cases h
  have hb' := hb
  unfold addL at hb
  cases hd : downs (st0 ++ mv st0.length st) a (st0 ++ mv st0.length st).length with
  | none => rw [hd] at hb; cases hb
  | some r =>
    rw [hd] at hb
    cases hb
    have el : (st0 ++ mv st0.length st).length = st0.length + st.length := by rw [List.length_append, mv_len]
    rw [← el] at hlast
    simp only [List.getD_eq_getElem?_getD, List.getElem?_append_right (Nat.le_refl _), Nat.sub_self, List.getElem?_cons_zero, Option.getD_some] at hlast
    have e2 : (((st0 ++ mv st0.length st).length : Nat) : Int) = (st.length : Int) + (st0.length : Int) := by omega
    rw [e2] at hd
    have hd2 := downs_unshift h0 hs (starts_append h0 hs) a st.length r (by omega) (Int.le_refl _) hd hlast
    have hadd : addL st a = some (st ++ [r - (st0.length : Int)]) := by
      unfold addL
      rw [hd2]
      rfl
    have hk := kids_shift (st0 := st0) (ps0 := ps0) (ps := ps) hs hadd hp
    rw [hk] at h2
    unfold stepT
    simp only [ha, hadd]
    rw [if_neg (by simp [h1]), if_neg (by simp [h2]), if_neg (by simp [h3]), if_neg (fun hh => by rw [h4 hh.1] at hh; cases hh.2)]
/-- Nodes that build on nothing ahead of them are a run of their own. -/
theorem go_unshift : ∀ {ns : List Node} {st0 st S2 : List Int} {ps0 ps P2 : List Part}, StartsOk st0 → StartsOk st → ps0.length = st0.length → goT ns (st0 ++ mv st0.length st) (ps0 ++ ps) = some (S2, P2) → (∀ j, st0.length + st.length ≤ j → j < S2.length → (st0.length : Int) ≤ S2.getD j 0) →
    ∃ st2 ps2, goT ns st ps = some (st2, ps2) ∧ S2 = st0 ++ mv st0.length st2 ∧ P2 = ps0 ++ ps2
  | [], st0, st, S2, ps0, ps, P2, h0, hs, hp, h, hj => by
    cases h
    exact ⟨st, ps, rfl, rfl, rfl⟩
  | n :: ns, st0, st, S2, ps0, ps, P2, h0, hs, hp, h, hj => by
    rw [goT_cons] at h
    by_cases hc : (stepT n (st0 ++ mv st0.length st) (ps0 ++ ps)).1 ≠ 0
    · rw [if_pos hc] at h; cases h
    · rw [if_neg hc] at h
      have hc0 : (stepT n (st0 ++ mv st0.length st) (ps0 ++ ps)).1 = 0 := by simpa using hc
      have hl := (go_len h).1
      have hpre := go_prefix h
      obtain ⟨a, st3, ha, hb, _, _, _, _, e⟩ := stepT_ok hc0
      have h3 := addL_len hb
      rw [e] at hl hpre h
      rw [List.length_append, mv_len] at h3
      have hs1 : (stepT n st ps).1 = 0 := step_unshift h0 hs hp e (by
        have h4 := hj (st0.length + st.length) (Nat.le_refl _) (by simp only at hl; omega)
        rwa [hpre (st0.length + st.length) (by simp only; omega)] at h4)
      have hsh := step_shift (st0 := st0) (ps0 := ps0) hs hp hs1
      rw [e] at hsh
      rw [goT_cons, if_neg (by simp [hs1])]
      have e1 : st3 = st0 ++ mv st0.length (stepT n st ps).2.1 := congrArg (fun x => x.2.1) hsh
      have e2 := congrArg (fun x => x.2.2) hsh
      simp only at e2 h
      rw [e1, e2] at h
      have hl2 := stepT_len hs1
      exact go_unshift h0 (step_starts hs hs1) hp h fun j hj1 hj2 => hj j (by omega) hj2
theorem made_kids {n : Node} {t wa : Bool} {kids : List Part} (h : (madeL n t wa kids).2 = 0) : ∀ p ∈ kids, p.truth = wa := by
  have hb : kidsBad wa kids = false := by
    cases hk : kidsBad wa kids with
    | false => rfl
    | true =>
      unfold madeL at h
      rw [hk, if_pos rfl] at h
      cases wa <;> cases h
  unfold kidsBad at hb
  rw [List.any_eq_false] at hb
  intro p hp
  have := hb p hp
  simpa using this
theorem check_part {p : List Node} {st : List Int} {ps : List Part} {wa : Bool} (h : Tree p st ps) (ht : (ps.getD (p.length - 1) Part.zero).truth = wa) (hw : weightT p ≤ 3000) : (checkT p).2 = if wa = true then 0 else 121 := by
  rw [h.truth] at ht
  cases wa with
  | true => rw [check_tree h ht, if_pos hw, if_pos rfl]
  | false =>
    have hc := h.run 0
    have hc0 : (runT p 0 [] []).2.1 = 0 := by rw [hc]
    unfold checkT
    rw [if_neg (by simp [hc0]), root_truth hc0 h.pos, ht, if_pos rfl, if_neg (by simp)]
theorem weight_take (l : List Node) (k : Nat) : weightT (l.take k) ≤ weightT l ∧ weightT (l.drop k) ≤ weightT l := by
  have h := weightT_append (l.take k) (l.drop k)
  rw [List.take_append_drop] at h
  have h1 := (weightT_range (l.take k)).1
  have h2 := (weightT_range (l.drop k)).1
  omega
/-- The root's step. -/
theorem root_step {t : List Node} {st : List Int} {ps : List Part} (h : Tree t st ps) : ∃ s1 p1 a, goT (t.take (t.length - 1)) [] [] = some (s1, p1) ∧ arityK (t.getD (t.length - 1) Node.zero).kind = some a ∧ addL s1 a = some st ∧ s1.length = t.length - 1 ∧ p1.length = t.length - 1 ∧
    (∀ p ∈ kidsL a s1 p1, p.truth = wantsK (t.getD (t.length - 1) Node.zero).kind) := by
  have hg := h.go
  rw [last_eq h.pos] at hg
  obtain ⟨s1, p1, h1, h2⟩ := go_split hg
  rw [goT_cons] at h2
  by_cases hc : (stepT (t.getD (t.length - 1) Node.zero) s1 p1).1 ≠ 0
  · rw [if_pos hc] at h2; cases h2
  · rw [if_neg hc] at h2
    obtain ⟨a, st3, ha, hb, _, hm, _, _, e⟩ := stepT_ok (Decidable.not_not.1 hc)
    rw [e] at h2
    cases h2
    obtain ⟨l1, l2⟩ := go_len h1
    have hp := h.pos
    rw [List.length_take] at l1 l2
    exact ⟨s1, p1, a, h1, ha, hb, by simp at l1; omega, by simp at l2; omega, made_kids hm⟩
theorem getD_snoc {s : List Int} {r : Int} {i : Nat} (hi : i < s.length) : (s ++ [r]).getD i 0 = s.getD i 0 := by
  simp only [List.getD_eq_getElem?_getD]
  rw [List.getElem?_append_left hi]
theorem getD_last {s : List Int} {r : Int} : (s ++ [r]).getD s.length 0 = r := by simp [List.getD_eq_getElem?_getD]
theorem parts_one {t : List Node} {st : List Int} {ps : List Part} (h : Tree t st ps) (ha : (arityK (t.getD (t.length - 1) Node.zero).kind).getD 0 = 1) (hw : weightT t ≤ 3000) : (checkT (t.take (t.length - 1))).2 = if wantsK (t.getD (t.length - 1) Node.zero).kind = true then 0 else 121 := by
  obtain ⟨s1, p1, a, h1, ha2, hb, l1, l2, hk⟩ := root_step h
  rw [ha2] at ha
  obtain rfl : a = 1 := ha
  have hp := h.pos
  have hr := h.root
  unfold addL at hb
  cases hd : downs s1 1 s1.length with
  | none => rw [hd] at hb; cases hb
  | some r =>
    rw [hd] at hb
    cases hb
    rw [← l1, getD_last] at hr
    subst hr
    have hpos := downs_one hd
    unfold downs at hd
    rw [if_neg (by omega)] at hd
    have e : ((s1.length : Nat) : Int).toNat - 1 = s1.length - 1 := by omega
    rw [e] at hd
    have hr0 : s1.getD (s1.length - 1) 0 = 0 := by simpa [downs] using hd
    have hlt : (t.take (t.length - 1)).length = t.length - 1 := by rw [List.length_take]; omega
    have hT : Tree (t.take (t.length - 1)) s1 p1 := ⟨h1, go_starts StartsOk.nil h1, by omega, by omega, by omega, by rw [hlt, ← l1]; exact hr0⟩
    refine check_part hT ?_ (by have := (weight_take t (t.length - 1)).1; omega)
    rw [one_kids hT] at hk
    exact hk _ (List.mem_cons_self ..)
theorem parts_both {t : List Node} {st : List Int} {ps : List Part} (h : Tree t st ps) (ha : (arityK (t.getD (t.length - 1) Node.zero).kind).getD 0 = 2) (hw : weightT t ≤ 3000) :
    ∀ p ∈ [t.take (st.getD (t.length - 2) 0).toNat, (t.take (t.length - 1)).drop (st.getD (t.length - 2) 0).toNat], (checkT p).2 = if wantsK (t.getD (t.length - 1) Node.zero).kind = true then 0 else 121 := by
  obtain ⟨s1, p1, a, h1, ha2, hb, l1, l2, hk⟩ := root_step h
  rw [ha2] at ha
  obtain rfl : a = 2 := ha
  have hp := h.pos
  have hr := h.root
  have hs1 := go_starts StartsOk.nil h1
  have hlam := go_lam StartsOk.nil Lam.nil h1
  unfold addL at hb
  cases hd : downs s1 2 s1.length with
  | none => rw [hd] at hb; cases hb
  | some r =>
    rw [hd] at hb
    cases hb
    rw [← l1, getD_last] at hr
    subst hr
    unfold downs at hd
    by_cases hz : ((s1.length : Nat) : Int) = 0
    · rw [if_pos hz] at hd; cases hd
    rw [if_neg hz] at hd
    have e : ((s1.length : Nat) : Int).toNat - 1 = s1.length - 1 := by omega
    rw [e] at hd
    have e2 : t.length - 2 = s1.length - 1 := by omega
    rw [e2, getD_snoc (by omega)]
    have hv := hs1 (s1.length - 1) (by omega)
    obtain ⟨v, hve⟩ : ∃ v, s1.getD (s1.length - 1) 0 = v := ⟨_, rfl⟩
    rw [hve] at hd hv ⊢
    unfold downs at hd
    by_cases hz2 : v = 0
    · rw [if_pos hz2] at hd; cases hd
    rw [if_neg hz2] at hd
    obtain ⟨k, rfl⟩ : ∃ k : Nat, v = (k : Int) := ⟨v.toNat, by omega⟩
    rw [Int.toNat_natCast] at hd ⊢
    have hr0 : s1.getD (k - 1) 0 = 0 := by simpa [downs] using hd
    have hkl : k ≤ t.length - 2 := by omega
    obtain ⟨m, hm⟩ : ∃ m, t.take (t.length - 1) = m := ⟨_, rfl⟩
    have hml : m.length = t.length - 1 := by rw [← hm, List.length_take]; omega
    have htk : t.take k = m.take k := by rw [← hm, List.take_take]; congr 1; omega
    rw [hm] at h1 ⊢
    rw [htk]
    have h1' := h1
    rw [← List.take_append_drop k m] at h1'
    obtain ⟨sp, pp, g1, g2⟩ := go_split h1'
    obtain ⟨q1, q2⟩ := go_len g1
    have hsl : sp.length = k := by rw [List.length_take] at q1; simp at q1; omega
    have hpl : pp.length = k := by rw [List.length_take] at q2; simp at q2; omega
    have hpre := go_prefix g2
    have hlk : (m.take k).length = k := by rw [List.length_take]; omega
    have hTp : Tree (m.take k) sp pp := ⟨g1, go_starts StartsOk.nil g1, by omega, by omega, by omega, by rw [hlk, ← hpre (k - 1) (by omega)]; exact hr0⟩
    have e0 : sp ++ mv sp.length [] = sp := by simp [mv]
    have e1 : pp ++ [] = pp := by simp
    obtain ⟨sq, pq, g3, es, ep⟩ := go_unshift (ns := m.drop k) (st0 := sp) (st := []) (ps0 := pp) (ps := []) hTp.starts StartsOk.nil (by omega) (by rw [e0, e1]; exact g2) (by
      intro j hj1 hj2
      rw [hsl]
      have := hlam (s1.length - 1) j (by omega) (by omega) (by rw [hve]; simp at hj1; omega)
      rwa [hve] at this)
    obtain ⟨q3, q4⟩ := go_len g3
    have hlq : (m.drop k).length = m.length - k := List.length_drop ..
    have hTq : Tree (m.drop k) sq pq := by
      refine ⟨g3, go_starts StartsOk.nil g3, by simpa using q3, by simpa using q4, by omega, ?_⟩
      have h4 := hve
      have e5 : s1.length - 1 = sp.length + ((m.drop k).length - 1) := by omega
      rw [e5, es, mv_get (by simp at q3; omega), hsl] at h4
      omega
    rw [es, ep, two_kids hTp hTq] at hk
    have hwm : weightT m ≤ 3000 := by have := (weight_take t (t.length - 1)).1; rw [hm] at this; omega
    have hwk := weight_take m k
    intro p hpm
    simp only [List.mem_cons, List.not_mem_nil, or_false] at hpm
    rcases hpm with rfl | rfl
    · exact check_part hTp (hk _ (List.mem_cons_self ..)) (by omega)
    · exact check_part hTq (hk _ (List.mem_cons_of_mem _ (List.mem_cons_self ..))) (by omega)
/-- What the parts are. -/
theorem parts_shape {t : List Node} {ls : List (List Node)} (h : partsT t = some ls) : 0 < t.length ∧ ls.length ≤ 2 ∧ (∀ p ∈ ls, 0 < p.length) ∧ ls.flatten ++ [t.getD (t.length - 1) Node.zero] = t := by
  unfold partsT at h
  cases hst : ofT t [] with
  | none => rw [hst] at h; cases h
  | some st =>
    rw [hst] at h
    simp only at h
    by_cases ho : oneB st = false
    · rw [if_pos ho] at h; cases h
    · rw [if_neg ho] at h
      have ho' : oneB st = true := by simpa using ho
      have ho2 := of_decide_eq_true ho'
      have hl := (ofT_ok t [] st starts_nil hst).2
      have hl : st.length = t.length := by simpa using hl
      have hp : 0 < t.length := by omega
      refine ⟨hp, ?_⟩
      obtain ⟨a, ha⟩ : ∃ a, (arityK (t.getD (t.length - 1) Node.zero).kind).getD 0 = a := ⟨_, rfl⟩
      rw [ha] at h
      match a, ha, h with
      | 0, ha, h =>
        cases h
        refine ⟨by simp, (fun p hp => by cases hp), ?_⟩
        have hlast := last_eq hp
        have hst2 := hst
        rw [hlast, ofT_snoc] at hst2
        cases h2 : ofT (t.take (t.length - 1)) [] with
        | none => rw [h2] at hst2; cases hst2
        | some s1 =>
          rw [h2] at hst2
          have hl1 := (ofT_ok _ [] s1 starts_nil h2).2
          rw [List.length_take] at hl1
          cases h3 : arityK (t.getD (t.length - 1) Node.zero).kind with
          | none => simp only [Option.bind_some] at hst2; rw [h3] at hst2; cases hst2
          | some x =>
            rw [h3] at ha
            obtain rfl : x = 0 := ha
            simp only [Option.bind_some] at hst2
            rw [h3] at hst2
            have hst2 : addL s1 0 = some st := hst2
            have e : st = s1 ++ [(s1.length : Int)] := by
              have : addL s1 0 = some (s1 ++ [(s1.length : Int)]) := rfl
              rw [this] at hst2
              exact (Option.some.inj hst2).symm
            have hz := ho2.2
            have hs1 : s1.length = st.length - 1 := by rw [e]; simp
            rw [e] at hz
            have e3 : (s1 ++ [(s1.length : Int)]).length - 1 = s1.length := by simp
            rw [e3, getD_last] at hz
            have : t.length = 1 := by omega
            have e5 : t.take (t.length - 1) = [] := by rw [this]; rfl
            rw [e5] at hlast
            exact hlast.symm
      | 1, ha, h =>
        cases h
        obtain ⟨h2, _⟩ := of_parts hp hst ha (Nat.le_refl _)
        refine ⟨by simp, ?_, ?_⟩
        · intro p hpm
          simp only [List.mem_cons, List.not_mem_nil, or_false] at hpm
          subst hpm
          rw [List.length_take]
          omega
        · simp only [List.flatten_cons, List.flatten_nil, List.append_nil]
          exact (last_eq hp).symm
      | a + 2, ha, h =>
        have ha2 : a = 0 := by
          cases h3 : arityK (t.getD (t.length - 1) Node.zero).kind with
          | none => rw [h3] at ha; cases ha
          | some x =>
            rw [h3] at ha
            have := (arityK_range h3).2.2
            simp only [Option.getD_some] at ha
            omega
        subst ha2
        cases h
        obtain ⟨h2, hc⟩ := of_parts hp hst ha (by omega)
        have hc := hc rfl
        obtain ⟨k, hk⟩ : ∃ k : Nat, st.getD (t.length - 2) 0 = (k : Int) := ⟨(st.getD (t.length - 2) 0).toNat, by omega⟩
        rw [hk, Int.toNat_natCast]
        rw [hk] at hc
        refine ⟨by simp, ?_, ?_⟩
        · intro p hpm
          simp only [List.mem_cons, List.not_mem_nil, or_false] at hpm
          rcases hpm with rfl | rfl
          · rw [List.length_take]; omega
          · rw [List.length_drop, List.length_take]; omega
        · simp only [List.flatten_cons, List.flatten_nil, List.append_nil]
          have htk : t.take k = (t.take (t.length - 1)).take k := by rw [List.take_take]; congr 1; omega
          rw [htk, List.take_append_drop]
          exact (last_eq hp).symm
theorem parts_check {t : List Node} {ls : List (List Node)} (h : partsT t = some ls) (hok : (checkT t).2 = 0) : ∀ p ∈ ls, (checkT p).2 = if wantsK (t.getD (t.length - 1) Node.zero).kind = true then 0 else 121 := by
  obtain ⟨h1, _, hw⟩ := check_ok hok
  have hT := tree_of h1
  have ho := ofT_of_go hT.go
  unfold partsT at h
  rw [ho] at h
  simp only at h
  by_cases hob : oneB (runT t 0 [] []).2.2.1 = false
  · rw [if_pos hob] at h; cases h
  · rw [if_neg hob] at h
    obtain ⟨a, ha⟩ : ∃ a, (arityK (t.getD (t.length - 1) Node.zero).kind).getD 0 = a := ⟨_, rfl⟩
    rw [ha] at h
    match a, ha, h with
    | 0, ha, h =>
      cases h
      intro p hp
      cases hp
    | 1, ha, h =>
      cases h
      intro p hp
      simp only [List.mem_cons, List.not_mem_nil, or_false] at hp
      subst hp
      exact parts_one hT ha hw
    | a + 2, ha, h =>
      have ha2 : a = 0 := by
        cases h3 : arityK (t.getD (t.length - 1) Node.zero).kind with
        | none => rw [h3] at ha; cases ha
        | some x =>
          rw [h3] at ha
          have := (arityK_range h3).2.2
          simp only [Option.getD_some] at ha
          omega
      subst ha2
      cases h
      exact parts_both hT ha hw
end Go.Proofs.YtffkaphbgfdpaaaGreatDoor.T
end

section
/- The types of nodes, under their short names. -/
namespace Go.Proofs.YtffkaphbgfdpaaaGreatDoor
abbrev Node := T.Node
end Go.Proofs.YtffkaphbgfdpaaaGreatDoor
end

section
/- Trees: what lists of nodes that are filters stand for. Plain. -/
namespace Go.Proofs.YtffkaphbgfdpaaaGreatDoor
open Go.RowKit Go.Shelf T
set_option linter.unusedVariables false
set_option linter.unusedSimpArgs false

inductive Tr where
  | leaf (n : Node)
  | un (n : Node) (x : Tr)
  | bin (n : Node) (x y : Tr)
def Tr.root : Tr → Node
  | leaf n => n
  | un n _ => n
  | bin n _ _ => n
def Tr.flat : Tr → List Node
  | leaf n => [n]
  | un n x => x.flat ++ [n]
  | bin n x y => x.flat ++ (y.flat ++ [n])
/-- Each node has as many parts as its kind says. -/
def Tr.Fit : Tr → Prop
  | leaf n => arityK n.kind = some 0
  | un n x => arityK n.kind = some 1 ∧ x.Fit
  | bin n x y => arityK n.kind = some 2 ∧ x.Fit ∧ y.Fit
def Tr.starts : Tr → Nat → List Int
  | leaf _, o => [(o : Int)]
  | un _ x, o => x.starts o ++ [(o : Int)]
  | bin _ x y, o => x.starts o ++ (y.starts (o + x.flat.length) ++ [(o : Int)])
theorem Tr.starts_len : ∀ (t : Tr) (o : Nat), (t.starts o).length = t.flat.length
  | leaf n, o => rfl
  | un n x, o => by simp [Tr.starts, Tr.flat, x.starts_len o]
  | bin n x y, o => by simp [Tr.starts, Tr.flat, x.starts_len o, y.starts_len]
theorem Tr.flat_pos : ∀ (t : Tr), 0 < t.flat.length
  | leaf n => by simp [Tr.flat]
  | un n x => by simp [Tr.flat]
  | bin n x y => by simp [Tr.flat]; omega
theorem Tr.starts_last : ∀ (t : Tr) (o : Nat), ∃ l, t.starts o = l ++ [(o : Int)] ∧ l.length + 1 = t.flat.length
  | leaf n, o => ⟨[], rfl, rfl⟩
  | un n x, o => ⟨x.starts o, rfl, by simp [Tr.flat, x.starts_len]⟩
  | bin n x y, o => ⟨x.starts o ++ y.starts (o + x.flat.length), by simp [Tr.starts], by simp [Tr.flat, x.starts_len, y.starts_len]; omega⟩
theorem Tr.flat_last : ∀ (t : Tr), ∃ l, t.flat = l ++ [t.root] ∧ l.length + 1 = t.flat.length
  | leaf n => ⟨[], rfl, rfl⟩
  | un n x => ⟨x.flat, rfl, by simp [Tr.flat]⟩
  | bin n x y => ⟨x.flat ++ y.flat, by simp [Tr.flat, Tr.root], by simp [Tr.flat]; omega⟩
/-- A pile of trees, the last one first: its nodes, and where they begin. -/
def flatR : List Tr → List Node
  | [] => []
  | t :: fs => flatR fs ++ t.flat
def startsR : List Tr → List Int
  | [] => []
  | t :: fs => startsR fs ++ t.starts (flatR fs).length
theorem startsR_len : ∀ fs : List Tr, (startsR fs).length = (flatR fs).length
  | [] => rfl
  | t :: fs => by simp [startsR, flatR, startsR_len fs, t.starts_len]
theorem downs_pile : ∀ (a : Nat) (fs : List Tr) (more : List Int), downs (startsR fs ++ more) a ((flatR fs).length : Int) = if fs.length < a then none else some ((flatR (fs.drop a)).length : Int)
  | 0, fs, more => by simp [downs]
  | a + 1, [], more => by simp [downs, flatR]
  | a + 1, t :: fs, more => by
    have ht := t.flat_pos
    obtain ⟨l, e, hl⟩ := t.starts_last (flatR fs).length
    have hlen : (flatR (t :: fs)).length = (flatR fs).length + t.flat.length := by simp [flatR]
    unfold downs
    rw [if_neg (by omega)]
    have hg : (startsR (t :: fs) ++ more).getD (((flatR (t :: fs)).length : Int).toNat - 1) 0 = ((flatR fs).length : Int) := by
      have e2 : startsR (t :: fs) ++ more = (startsR fs ++ l) ++ (((flatR fs).length : Int) :: more) := by rw [startsR, e]; simp
      have e3 : ((flatR (t :: fs)).length : Int).toNat - 1 = (startsR fs ++ l).length := by rw [List.length_append, startsR_len]; omega
      rw [e2, e3, List.getD_eq_getElem?_getD, List.getElem?_append_right (Nat.le_refl _)]
      simp
    rw [hg, startsR, List.append_assoc, downs_pile a fs]
    simp
theorem addL_pile (fs : List Tr) (a : Nat) : addL (startsR fs) a = if fs.length < a then none else some (startsR fs ++ [((flatR (fs.drop a)).length : Int)]) := by
  have := downs_pile a fs []
  rw [List.append_nil] at this
  unfold addL
  rw [startsR_len, this]
  split <;> simp
/-- The pile behind one node more. -/
def pushT (n : Node) (fs : List Tr) : Option (List Tr) :=
  match arityK n.kind, fs with
  | some 0, fs => some (.leaf n :: fs)
  | some 1, x :: fs => some (.un n x :: fs)
  | some 2, y :: x :: fs => some (.bin n x y :: fs)
  | _, _ => none
theorem push_ok {n : Node} {fs : List Tr} {a : Nat} {st : List Int} (ha : arityK n.kind = some a) (h : addL (startsR fs) a = some st) :
    ∃ t gs, pushT n fs = some (t :: gs) ∧ st = startsR (t :: gs) ∧ flatR (t :: gs) = flatR fs ++ [n] ∧ ((∀ x ∈ fs, x.Fit) → ∀ x ∈ t :: gs, x.Fit) ∧ t.root = n := by
  rw [addL_pile] at h
  have h2 := (arityK_range ha).2.2
  obtain rfl | rfl | rfl : a = 0 ∨ a = 1 ∨ a = 2 := by omega
  · rw [if_neg (by omega)] at h
    cases h
    refine ⟨.leaf n, fs, by simp [pushT, ha], by simp [startsR, Tr.starts], by simp [flatR, Tr.flat], fun hf x hx => ?_, rfl⟩
    rcases List.mem_cons.1 hx with rfl | hx
    · exact ha
    · exact hf x hx
  · cases fs with
    | nil => simp at h
    | cons y fs =>
      rw [if_neg (by simp)] at h
      cases h
      refine ⟨.un n y, fs, by simp [pushT, ha], by simp [startsR, Tr.starts], by simp [flatR, Tr.flat], fun hf x hx => ?_, rfl⟩
      rcases List.mem_cons.1 hx with rfl | hx
      · exact ⟨ha, hf y List.mem_cons_self⟩
      · exact hf x (List.mem_cons_of_mem _ hx)
  · cases fs with
    | nil => simp at h
    | cons y fs =>
      cases fs with
      | nil => simp at h
      | cons x fs =>
        rw [if_neg (by simp)] at h
        cases h
        refine ⟨.bin n x y, fs, by simp [pushT, ha], by simp [startsR, Tr.starts, flatR], by simp [flatR, Tr.flat], fun hf z hz => ?_, rfl⟩
        rcases List.mem_cons.1 hz with rfl | hz
        · exact ⟨ha, hf x (by simp), hf y (by simp)⟩
        · exact hf z (by simp [hz])
theorem ofT_pile : ∀ (ns : List Node) (fs : List Tr) (st : List Int), (∀ x ∈ fs, x.Fit) → ofT ns (startsR fs) = some st →
    ∃ gs : List Tr, st = startsR gs ∧ flatR gs = flatR fs ++ ns ∧ (∀ x ∈ gs, x.Fit)
  | [], fs, st, hf, h => by
    cases h
    exact ⟨fs, rfl, by simp, hf⟩
  | n :: ns, fs, st, hf, h => by
    unfold ofT at h
    cases ha : arityK n.kind with
    | none => rw [ha] at h; cases h
    | some a =>
      simp only [ha] at h
      cases hb : addL (startsR fs) a with
      | none => rw [hb] at h; cases h
      | some s2 =>
        simp only [hb] at h
        obtain ⟨t, gs, hp, rfl, e2, hF, hr⟩ := push_ok ha hb
        obtain ⟨gs2, e3, e4, hF2⟩ := ofT_pile ns (t :: gs) st (hF hf) h
        exact ⟨gs2, e3, by rw [e4, e2]; simp, hF2⟩
/-- A list whose beginnings are one tree's is that tree's nodes. -/
theorem tree_ofT {ns : List Node} {st : List Int} (h : ofT ns [] = some st) (h1 : oneB st = true) : ∃ t : Tr, t.Fit ∧ t.flat = ns ∧ st = t.starts 0 := by
  obtain ⟨gs, rfl, e, hF⟩ := ofT_pile ns [] st (fun x hx => by cases hx) h
  have h1 := of_decide_eq_true h1
  cases gs with
  | nil => simp [startsR] at h1
  | cons t fs =>
    obtain ⟨l, e2, hl⟩ := t.starts_last (flatR fs).length
    have hz : ((flatR fs).length : Int) = 0 := by
      have := h1.2
      rw [startsR, e2, ← List.append_assoc, List.length_append, List.length_singleton, Nat.add_sub_cancel, List.getD_eq_getElem?_getD, List.getElem?_append_right (Nat.le_refl _)] at this
      simpa using this
    cases fs with
    | nil => exact ⟨t, hF t List.mem_cons_self, by simpa [flatR] using e, by simp [startsR, flatR]⟩
    | cons x fs =>
      have := x.flat_pos
      simp [flatR] at hz
      omega
/-- The other way: a tree's nodes are one tree. -/
theorem ofT_app : ∀ (a b : List Node) (st : List Int), ofT (a ++ b) st = (ofT a st).bind (ofT b)
  | [], b, st => rfl
  | n :: a, b, st => by
    show ofT (n :: (a ++ b)) st = (ofT (n :: a) st).bind (ofT b)
    unfold ofT
    cases arityK n.kind with
    | none => rfl
    | some k =>
      simp only
      cases addL st k with
      | none => rfl
      | some s2 => exact ofT_app a b s2
theorem ofT_one (n : Node) (a : Nat) (fs : List Tr) (ha : arityK n.kind = some a) : ofT [n] (startsR fs) = if fs.length < a then none else some (startsR fs ++ [((flatR (fs.drop a)).length : Int)]) := by
  simp only [ofT, ha, addL_pile]
  by_cases h : fs.length < a
  · simp [h]
  · simp [h]
theorem ofT_tree : ∀ (t : Tr) (fs : List Tr), t.Fit → ofT t.flat (startsR fs) = some (startsR (t :: fs))
  | .leaf n, fs, h => by
    rw [Tr.flat, ofT_one n 0 fs h]
    simp [startsR, Tr.starts]
  | .un n x, fs, h => by
    rw [Tr.flat, ofT_app, ofT_tree x fs h.2]
    show ofT [n] (startsR (x :: fs)) = _
    rw [ofT_one n 1 _ h.1]
    simp [startsR, Tr.starts]
  | .bin n x y, fs, h => by
    rw [Tr.flat, ofT_app, ofT_tree x fs h.2.1]
    show ofT (y.flat ++ [n]) (startsR (x :: fs)) = _
    rw [ofT_app, ofT_tree y _ h.2.2]
    show ofT [n] (startsR (y :: x :: fs)) = _
    rw [ofT_one n 2 _ h.1]
    simp [startsR, Tr.starts, flatR]
/-- Two trees with the same nodes are one. -/
theorem flat_inj : ∀ (t u : Tr) (a b : List Node), t.Fit → u.Fit → a ++ t.flat = b ++ u.flat → t = u ∧ a = b
  | .leaf n, u, a, b, ht, hu, h => by
    obtain ⟨l, e, hl⟩ := u.flat_last
    rw [e, Tr.flat, ← List.append_assoc] at h
    obtain ⟨h1, h2⟩ := List.append_inj' h rfl
    have hn : n = u.root := by simpa using h2
    cases u with
    | leaf m =>
      cases hn
      have : l = [] := by cases l with | nil => rfl | cons x l => simp [Tr.flat] at hl
      subst this
      exact ⟨rfl, by simpa using h1⟩
    | un m x => rw [hn] at ht; have e3 := hu.1; simp only [Tr.root, Tr.Fit] at ht e3; rw [ht] at e3; cases e3
    | bin m x y => rw [hn] at ht; have e3 := hu.1; simp only [Tr.root, Tr.Fit] at ht e3; rw [ht] at e3; cases e3
  | .un n x, u, a, b, ht, hu, h => by
    cases u with
    | leaf m =>
      have h0 : a ++ x.flat ++ [n] = b ++ [m] := by simpa [Tr.flat] using h
      have hn : n = m := by simpa using (List.append_inj' h0 rfl).2
      subst hn
      have e3 := ht.1
      have e4 : arityK n.kind = some 0 := hu
      rw [e4] at e3; cases e3
    | un m y =>
      have h0 : (a ++ x.flat) ++ [n] = (b ++ y.flat) ++ [m] := by simpa [Tr.flat] using h
      obtain ⟨h1, h2⟩ := List.append_inj' h0 rfl
      have hn : n = m := by simpa using h2
      obtain ⟨rfl, rfl⟩ := flat_inj x y a b ht.2 hu.2 h1
      exact ⟨by rw [hn], rfl⟩
    | bin m y z =>
      have h0 : (a ++ x.flat) ++ [n] = (b ++ y.flat ++ z.flat) ++ [m] := by simpa [Tr.flat] using h
      have hn : n = m := by simpa using (List.append_inj' h0 rfl).2
      subst hn
      have e3 := ht.1
      have e4 := hu.1
      rw [e4] at e3; cases e3
  | .bin n x y, u, a, b, ht, hu, h => by
    cases u with
    | leaf m =>
      have h0 : (a ++ x.flat ++ y.flat) ++ [n] = b ++ [m] := by simpa [Tr.flat] using h
      have hn : n = m := by simpa using (List.append_inj' h0 rfl).2
      subst hn
      have e3 := ht.1
      have e4 : arityK n.kind = some 0 := hu
      rw [e4] at e3; cases e3
    | un m z =>
      have h0 : (a ++ x.flat ++ y.flat) ++ [n] = (b ++ z.flat) ++ [m] := by simpa [Tr.flat] using h
      have hn : n = m := by simpa using (List.append_inj' h0 rfl).2
      subst hn
      have e3 := ht.1
      have e4 := hu.1
      rw [e4] at e3; cases e3
    | bin m z v =>
      have h0 : ((a ++ x.flat) ++ y.flat) ++ [n] = ((b ++ z.flat) ++ v.flat) ++ [m] := by simpa [Tr.flat] using h
      obtain ⟨h1, h2⟩ := List.append_inj' h0 rfl
      have hn : n = m := by simpa using h2
      obtain ⟨rfl, h3⟩ := flat_inj y v _ _ ht.2.2 hu.2.2 h1
      obtain ⟨rfl, rfl⟩ := flat_inj x z a b ht.2.1 hu.2.1 h3
      exact ⟨by rw [hn], rfl⟩
/-- A list that Check takes is a tree. -/
theorem tree_check {ns : List Node} (h : (checkT ns).2 = 0) : ∃ t : Tr, t.Fit ∧ t.flat = ns ∧ ofT ns [] = some (t.starts 0) := by
  have hr : (T.runT ns 0 [] []).2.1 = 0 := by
    unfold checkT at h
    by_cases hc : (T.runT ns 0 [] []).2.1 ≠ 0
    · rw [if_pos hc] at h; exact absurd h hc
    · simpa using hc
  obtain ⟨hg, ho⟩ := go_of_run ns 0 [] [] hr
  have := ofT_of_go hg
  obtain ⟨t, h1, h2, h3⟩ := tree_ofT this ho
  exact ⟨t, h1, h2, by rw [this, h3]⟩
end Go.Proofs.YtffkaphbgfdpaaaGreatDoor
end

section
/- riddlelaw12.awake: it answers true. -/
namespace Go.Proofs.YtffkaphbgfdpaaaGreatDoor.T
open Go.RowKit Go.Shelf
set_option linter.unusedVariables false
set_option maxRecDepth 100000
set_option linter.unusedSimpArgs false

abbrev wordN : Node := Node.kf 11 2
theorem zero_bytes : ∀ x ∈ A16.zero.list, isByte x := by
  intro x hx
  have : x = 0 := by
    simp [A16.zero, A16.list] at hx
    exact hx
  subst this
  exact ⟨by decide, by decide⟩
/-- A list of nodes of small numbers and no address. -/
theorem nodesOk_of {l : List Node} (h : ∀ n ∈ l, n.addr = A16.zero ∧ isU32 n.n) (hl : l.length ≤ 1000) : NodesOk l :=
  ⟨fun n hn => by unfold Node.bytes; rw [(h n hn).1]; exact zero_bytes, fun n hn => (h n hn).2, by omega⟩
theorem check_ww : checkT [wordN, wordN] = (2, 120) := by kernel_rfl
theorem check_w : checkT [wordN] = (0, 0) := by kernel_rfl
theorem const_5 : constT [Node.kn 1 5, Node.k0 5] = (4294967291, true) := by kernel_rfl
theorem parts_w : partsT [wordN, Node.k0 9] = some [[wordN]] := by kernel_rfl
theorem weight_w : weightT [wordN] = 12 := by kernel_rfl
theorem ok_ww : NodesOk [wordN, wordN] := nodesOk_of (by simp [Node.kf, Node.zero, isU32]) (by simp)
theorem ok_w : NodesOk [wordN] := nodesOk_of (by simp [Node.kf, Node.zero, isU32]) (by simp)
theorem ok_5 : NodesOk [Node.kn 1 5, Node.k0 5] := nodesOk_of (by simp [Node.kn, Node.k0, Node.zero, isU32]) (by simp)
theorem keep3 {w4 V V' : World} {a : Addr} {v : Value} {p : Addr} {n : Node} (h : V.cell? a = some v ∧ nodeAt V p = some n ∧ Below w4.heap.size w4 V) (hb : Below V.heap.size V V') : V'.cell? a = some v ∧ nodeAt V' p = some n ∧ Below w4.heap.size w4 V' :=
  ⟨(hb.cell (World.block_lt_of_cell? V _ h.1)).trans h.1, nodeAt_later hb h.2.1, h.2.2.trans (hb.mono h.2.2.size)⟩
theorem last3 {a b c : Prop} (H : a ∧ b ∧ c) : c := H.2.2
theorem same_ww : decide ([wordN] = [wordN]) = true := by simp
end Go.Proofs.YtffkaphbgfdpaaaGreatDoor.T
end

section
/- A []api.Node that came in: what is known of it. -/
namespace Go.Proofs.YtffkaphbgfdpaaaGreatDoor.T
open Go.ChangeShapes Go.WideShapes Go.RowKit Go.Shelf
set_option linter.unusedVariables false
set_option maxRecDepth 100000
set_option linter.unusedSimpArgs false

section
variable {H : Type} {enc0 : TypeId × Value → H} {w : World} {base : Nat} {spare : Nat → Bool} {held : Bool}
theorem int_cell {P : Program} {t : TypeId} {k : IntKind} (ht : P.underlying t = some (.int k)) (hc : P.cellsOf t = 1) {cs : List Value} {off m : Nat} {o : Option (DataW H × List MemPlace)} (h : DataW.trod enc0 P w base spare held m t ((cs.drop off).take (P.cellsOf t)) = o) (ho : o.isSome = true) :
    ∃ n, cs[off]? = some (.int k n) ∧ (Lit.int k n).wf = true := by
  obtain ⟨y, rfl⟩ := Option.isSome_iff_exists.1 ho
  obtain ⟨n, e, _, hw⟩ := DataW.trod_int ht h
  rw [hc] at e
  refine ⟨n, ?_, hw⟩
  have := congrArg List.head? e
  simpa [List.head?_take, List.head?_drop] using this
theorem some_at {α : Type} {xs : List α} {n i : Nat} (h : xs.length = n) (hi : i < n) : xs[i]?.isSome = true := by
  rw [List.getElem?_eq_getElem (by omega)]
  rfl
theorem cellsN : Tryz.prog.cellsOf 37 = 24 := by kernel_rfl
theorem cellsI : Tryz.prog.cellsOf 3 = 1 := by kernel_rfl
theorem cellsU : Tryz.prog.cellsOf 34 = 1 := by kernel_rfl
theorem cellsB : Tryz.prog.cellsOf 5 = 1 := by kernel_rfl
theorem cellsA : Tryz.prog.cellsOf 35 = 16 := by kernel_rfl
theorem bytesN : Tryz.prog.bytesOf 37 = 72 := by kernel_rfl
theorem node_of_trod {fuel : Nat} {cs : List Value} {x : DataW H × List MemPlace} (h : DataW.trod enc0 Tryz.prog w base spare held fuel 37 cs = some x) : ∃ nd : Node, cs = encL nd ∧ nd.bytes ∧ isU32 nd.n := by
  obtain ⟨xs, m, _, _, hl, hx, hf⟩ := DataW.trod_struct Tryz.underlying37 h
  rw [cellsN] at hl
  obtain ⟨v0, p0, w0⟩ := int_cell (off := 0) Tryz.underlying3 cellsI (hf 0 _ rfl) (some_at hx (by decide))
  obtain ⟨v1, p1, w1⟩ := int_cell (off := 1) Tryz.underlying3 cellsI (hf 1 _ rfl) (some_at hx (by decide))
  obtain ⟨v2, p2, w2⟩ := int_cell (off := 2) Tryz.underlying34 cellsU (hf 2 _ rfl) (some_at hx (by decide))
  obtain ⟨v3, p3, w3⟩ := int_cell (off := 3) Tryz.underlying34 cellsU (hf 3 _ rfl) (some_at hx (by decide))
  obtain ⟨v4, p4, w4⟩ := int_cell (off := 4) Tryz.underlying3 cellsI (hf 4 _ rfl) (some_at hx (by decide))
  obtain ⟨v5, p5, w5⟩ := int_cell (off := 5) Tryz.underlying3 cellsI (hf 5 _ rfl) (some_at hx (by decide))
  obtain ⟨v6, p6, w6⟩ := int_cell (off := 6) Tryz.underlying3 cellsI (hf 6 _ rfl) (some_at hx (by decide))
  have hx7 : DataW.trod enc0 Tryz.prog w base spare held m 35 ((cs.drop 7).take (Tryz.prog.cellsOf 35)) = xs[7]? := hf 7 _ rfl
  obtain ⟨y7, e7⟩ := Option.isSome_iff_exists.1 (some_at hx (i := 7) (by decide))
  rw [e7] at hx7
  obtain ⟨zs, m7, _, _, hl7, hz, hf7⟩ := DataW.trod_array Tryz.underlying35 hx7
  obtain ⟨b0, q0, wb0⟩ := int_cell Tryz.underlying5 cellsB (hf7 0 (by decide)) (some_at hz (by decide))
  obtain ⟨b1, q1, wb1⟩ := int_cell Tryz.underlying5 cellsB (hf7 1 (by decide)) (some_at hz (by decide))
  obtain ⟨b2, q2, wb2⟩ := int_cell Tryz.underlying5 cellsB (hf7 2 (by decide)) (some_at hz (by decide))
  obtain ⟨b3, q3, wb3⟩ := int_cell Tryz.underlying5 cellsB (hf7 3 (by decide)) (some_at hz (by decide))
  obtain ⟨b4, q4, wb4⟩ := int_cell Tryz.underlying5 cellsB (hf7 4 (by decide)) (some_at hz (by decide))
  obtain ⟨b5, q5, wb5⟩ := int_cell Tryz.underlying5 cellsB (hf7 5 (by decide)) (some_at hz (by decide))
  obtain ⟨b6, q6, wb6⟩ := int_cell Tryz.underlying5 cellsB (hf7 6 (by decide)) (some_at hz (by decide))
  obtain ⟨b7, q7, wb7⟩ := int_cell Tryz.underlying5 cellsB (hf7 7 (by decide)) (some_at hz (by decide))
  obtain ⟨b8, q8, wb8⟩ := int_cell Tryz.underlying5 cellsB (hf7 8 (by decide)) (some_at hz (by decide))
  obtain ⟨b9, q9, wb9⟩ := int_cell Tryz.underlying5 cellsB (hf7 9 (by decide)) (some_at hz (by decide))
  obtain ⟨b10, q10, wb10⟩ := int_cell Tryz.underlying5 cellsB (hf7 10 (by decide)) (some_at hz (by decide))
  obtain ⟨b11, q11, wb11⟩ := int_cell Tryz.underlying5 cellsB (hf7 11 (by decide)) (some_at hz (by decide))
  obtain ⟨b12, q12, wb12⟩ := int_cell Tryz.underlying5 cellsB (hf7 12 (by decide)) (some_at hz (by decide))
  obtain ⟨b13, q13, wb13⟩ := int_cell Tryz.underlying5 cellsB (hf7 13 (by decide)) (some_at hz (by decide))
  obtain ⟨b14, q14, wb14⟩ := int_cell Tryz.underlying5 cellsB (hf7 14 (by decide)) (some_at hz (by decide))
  obtain ⟨b15, q15, wb15⟩ := int_cell Tryz.underlying5 cellsB (hf7 15 (by decide)) (some_at hz (by decide))
  obtain ⟨v8, p8, w8⟩ := int_cell (off := 23) Tryz.underlying3 cellsI (hf 8 _ rfl) (some_at hx (by decide))
  clear hf hf7 hx7
  match cs, hl with
  | [c0, c1, c2, c3, c4, c5, c6, c7, c8, c9, c10, c11, c12, c13, c14, c15, c16, c17, c18, c19, c20, c21, c22, c23], _ =>
    rw [cellsA] at q0 q1 q2 q3 q4 q5 q6 q7 q8 q9 q10 q11 q12 q13 q14 q15
    simp [cellsB] at p0 p1 p2 p3 p4 p5 p6 p8 q0 q1 q2 q3 q4 q5 q6 q7 q8 q9 q10 q11 q12 q13 q14 q15
    subst p0 p1 p2 p3 p4 p5 p6 p8 q0 q1 q2 q3 q4 q5 q6 q7 q8 q9 q10 q11 q12 q13 q14 q15
    refine ⟨⟨v0, v1, v2, v3, v4, v5, v6, ⟨b0, b1, b2, b3, b4, b5, b6, b7, b8, b9, b10, b11, b12, b13, b14, b15⟩, v8⟩, rfl, ?_, ?_⟩
    · intro x hx
      simp only [A16.list, List.mem_cons, List.not_mem_nil, or_false] at hx
      rcases hx with rfl | rfl | rfl | rfl | rfl | rfl | rfl | rfl | rfl | rfl | rfl | rfl | rfl | rfl | rfl | rfl
      · exact bounds_u8 wb0
      · exact bounds_u8 wb1
      · exact bounds_u8 wb2
      · exact bounds_u8 wb3
      · exact bounds_u8 wb4
      · exact bounds_u8 wb5
      · exact bounds_u8 wb6
      · exact bounds_u8 wb7
      · exact bounds_u8 wb8
      · exact bounds_u8 wb9
      · exact bounds_u8 wb10
      · exact bounds_u8 wb11
      · exact bounds_u8 wb12
      · exact bounds_u8 wb13
      · exact bounds_u8 wb14
      · exact bounds_u8 wb15
    · exact bounds_u32 w2
/-- A []api.Node that came in. -/
theorem open_nodes {A : Option Addr} {len cap : Nat} {d : DataW H} {p : List MemPlace} (h : DataW.Trod enc0 Tryz.prog w base (fun _ => true) held 22 (.slice A len cap) d p) :
    ∃ ns : List Node, ns.length = len ∧ Ns w A ns ∧ (∀ n ∈ ns, n.bytes) ∧ (∀ n ∈ ns, isU32 n.n) ∧ len ≤ cap ∧ (A = none → cap = 0) ∧
      (d = .nil ∧ cap = 0 ∨ ∃ es rs, d = .slice es rs ∧ es.length + rs.length = cap) := by
  obtain ⟨fuel, hf⟩ := h
  rcases Deep.open_slice Tryz.underlying22 hf with ⟨e, ex⟩ | ⟨a, l, c, m, n, D, Pl, e, hb, hl, hc, hm, ex, hel⟩
  · simp [Value.cells] at e
    obtain ⟨rfl, rfl, rfl⟩ := e
    exact ⟨[], rfl, Ns.nil, (fun n hn => by cases hn), (fun n hn => by cases hn), Nat.le_refl _, fun _ => rfl, .inl ⟨congrArg Prod.fst ex, rfl⟩⟩
  · simp [Value.cells] at e
    obtain ⟨rfl, rfl, rfl⟩ := e
    simp only [if_true] at hm
    subst hm
    have hd : d = _ := congrArg Prod.fst ex
    rw [cellsN] at hel
    obtain ⟨N, hN⟩ := Deep.choose_lt (α := Node) (n := len) (p := fun i nd => w.cells? base (a.add (i * 24)) 24 = some (encL nd) ∧ nd.bytes ∧ isU32 nd.n) (fun i hi => by
      obtain ⟨cs, h1, h2⟩ := hel i (by omega)
      obtain ⟨nd, rfl, hbt, hu⟩ := node_of_trod h2
      exact ⟨nd, h1, hbt, hu⟩)
    have hg : ∀ i, i < len → ((List.range len).map N).getD i Node.zero = N i := fun i hi => by simp [List.getD, hi]
    refine ⟨(List.range len).map N, by simp, ?_, ?_, ?_, hl, (fun h => by cases h), .inr ⟨_, _, hd, by simp; omega⟩⟩
    · intro hp
      have hp : 0 < len := by simpa using hp
      obtain ⟨b, off, spot⟩ := a
      have h0 := World.cells?_some (hN 0 hp).1
      have hspot : spot = none := by
        have := h0.2.2 0 (by decide)
        simpa [Addr.add] using World.cell?_spot this
      subst hspot
      refine ⟨b, off, rfl, fun i hi => ?_⟩
      have hi : i < len := by simpa using hi
      rw [hg i hi]
      refine nodeAt_of fun j v hj => ?_
      obtain ⟨_, hlen, hc⟩ := World.cells?_some (hN i hi).1
      have hjl := (List.getElem?_eq_some_iff.1 hj).1
      have := hc j (by rw [encL_length] at hjl; exact hjl)
      rw [add_plain] at this
      rw [this, hj]
    · intro n hn
      obtain ⟨i, hi, rfl⟩ := List.mem_map.1 hn
      exact (hN i (by simpa using hi)).2.1
    · intro n hn
      obtain ⟨i, hi, rfl⟩ := List.mem_map.1 hn
      exact (hN i (by simpa using hi)).2.2
end
end Go.Proofs.YtffkaphbgfdpaaaGreatDoor.T
end

section
/- Appending nodes to a row of one's own. -/
namespace Go.Proofs.YtffkaphbgfdpaaaGreatDoor.T
open Go.RowKit Go.Shelf
set_option linter.unusedVariables false
set_option maxRecDepth 100000
set_option linter.unusedSimpArgs false

/-- A row of nodes, just built. -/
theorem own_new (w : World) (l : List Node) (hl : l.length ≤ 1000) : OwnN (w.alloc (.cells (flat l).toArray 37)) w.heap.size (.slice (some ⟨w.heap.size, 0, none⟩) l.length l.length) l :=
  ⟨flat_length l, .inr ⟨w.heap.size, l.length, (flat l).toArray, rfl, Nat.le_refl _, heap_alloc_new w _, Nat.le_refl _, by simp only [maxLen]; omega, by simp [flat_length], by
    rw [← flat_length]
    simp⟩⟩
theorem OwnN.is {w : World} {base g n c : Nat} {ns : List Node} (h : OwnN w base (.slice (some ⟨g, 0, none⟩) n c) ns) : Ns w (some ⟨g, 0, none⟩) ns := by
  obtain ⟨A, c', e, hN⟩ := h.ns
  cases e
  exact hN
theorem OwnN.capLe {w : World} {base g n c : Nat} {ns : List Node} (h : OwnN w base (.slice (some ⟨g, 0, none⟩) n c) ns) : ns.length ≤ c := own_cap h
section
variable {ops : Array Oper} {o : Oper} {a : Act} {Q : Exit → Act → World → Prop} {w : World}
theorem wp_app {K : Act → World → Prop} (hgd : o.guard = none) (s x : Operand)
    (ho : o.op = .call { callee := .builtin .append, args := #[s, x], argTypes := #[22, 22] })
    (base : Nat) (ns ms : List Node) (g n c : Nat) (hs : a.eval s = .slice (some ⟨g, 0, none⟩) n c) (hn : n = ns.length) (hown : OwnN w base (.slice (some ⟨g, 0, none⟩) n c) ns)
    (B : Option Addr) (m d : Nat) (hx : a.eval x = .slice B m d) (hm : m = ms.length) (hms : Ns w B ms) (hnil : B = none → d = 0)
    (hlen : ns.length + ms.length ≤ 1954687338260) (hbase : base ≤ w.heap.size)
    (h : ∀ g2 cap w', OwnN w' base (.slice (some ⟨g2, 0, none⟩) (n + m) cap) (ns ++ ms) → Below base w w' → w.grownBy w' (some g) → g2 < w'.heap.size → K (a.put o.dst (.slice (some ⟨g2, 0, none⟩) (n + m) cap)) w') : Oper.wp Tryz.prog o a w K Q := by
  subst hn
  subst hm
  obtain ⟨i0, hi0, hz0, hz1, hz2⟩ := info_parts nodeInfos
  have hlt := own_lt hown (b := g) rfl
  by_cases hp : 0 < ms.length
  · obtain ⟨b, off, rfl, hc⟩ := hms.cells hp
    refine wp_append_lies w s x 22 ho base 37 i0 (.agg (enc Node.zero)) 24 72 Tryz.underlying22 hi0 hz0 hz1 hz2 rfl (by decide) _ ns.length (flat ns) hs hown ⟨b, off, none⟩ ms.length d (flat ms) hx (flat_length ms) hc (flat_one ms) hp (by simp only [maxLen]; omega) (by omega) hbase w.heap.size rfl ?_
    intro g2 cap w' h1 h2 h3 h4
    refine h g2 cap w' ?_ ?_ h2 h4
    · unfold OwnN
      rw [List.length_append, flat_append]
      exact h1
    · exact (Below.refl base w).grown h2 hbase fun k e => by cases e; exact hlt.1
  · have hm0 : ms = [] := List.eq_nil_of_length_eq_zero (by omega)
    subst hm0
    have hr := run_append_empty (P := Tryz.prog) w 22 o.type 37 i0 Tryz.underlying22 hi0 g 0 ns.length c d B (own_cap hown) hnil
    have hx' : a.eval x = .slice B 0 d := hx
    unfold Oper.wp execOp
    simp only [ho, resolve, invoke, builtin, Sem.run_bind, Sem.run_pure, Result.andThen_ok, List.map_toArray, List.map_cons, List.map_nil, hs, hx', hr]
    exact h g c w (by simpa using hown) (Below.refl _ _) (World.grownBy.refl _ _) hlt.2
/-- At the list of a plain region's operations. -/
theorem wpList_app {rest : List Oper} (hgd : o.guard = none) (s x : Operand)
    (ho : o.op = .call { callee := .builtin .append, args := #[s, x], argTypes := #[22, 22] })
    (base : Nat) (ns ms : List Node) (g n c : Nat) (hs : a.eval s = .slice (some ⟨g, 0, none⟩) n c) (hn : n = ns.length) (hown : OwnN w base (.slice (some ⟨g, 0, none⟩) n c) ns)
    (B : Option Addr) (m d : Nat) (hx : a.eval x = .slice B m d) (hm : m = ms.length) (hms : Ns w B ms) (hnil : B = none → d = 0)
    (hlen : ns.length + ms.length ≤ 1954687338260) (hbase : base ≤ w.heap.size)
    (h : ∀ g2 cap w', OwnN w' base (.slice (some ⟨g2, 0, none⟩) (n + m) cap) (ns ++ ms) → Below base w w' → w.grownBy w' (some g) → g2 < w'.heap.size → wpList Tryz.prog ops Q rest (a.put o.dst (.slice (some ⟨g2, 0, none⟩) (n + m) cap)) w') : wpList Tryz.prog ops Q (o :: rest) a w :=
  wpList_plain hgd fun _ hK => wp_app hgd s x ho base ns ms g n c hs hn hown B m d hx hm hms hnil hlen hbase fun g2 cap w' h1 h2 h3 h4 => hK _ _ (h g2 cap w' h1 h2 h3 h4)
/-- At a step of a region that draws its order. -/
theorem step_app {K : Act → World → Prop} {E : Prop} (hgd : o.guard = none) (s x : Operand)
    (ho : o.op = .call { callee := .builtin .append, args := #[s, x], argTypes := #[22, 22] })
    (base : Nat) (ns ms : List Node) (g n c : Nat) (hs : a.eval s = .slice (some ⟨g, 0, none⟩) n c) (hn : n = ns.length) (hown : OwnN w base (.slice (some ⟨g, 0, none⟩) n c) ns)
    (B : Option Addr) (m d : Nat) (hx : a.eval x = .slice B m d) (hm : m = ms.length) (hms : Ns w B ms) (hnil : B = none → d = 0)
    (hlen : ns.length + ms.length ≤ 1954687338260) (hbase : base ≤ w.heap.size)
    (h : ∀ g2 cap w', OwnN w' base (.slice (some ⟨g2, 0, none⟩) (n + m) cap) (ns ++ ms) → Below base w w' → w.grownBy w' (some g) → g2 < w'.heap.size → K (a.put o.dst (.slice (some ⟨g2, 0, none⟩) (n + m) cap)) w') : 
    if Region.wanted o (yielded ops a.tmps) = true then Oper.wp Tryz.prog o a w K Q else E := by
  have hw : Region.wanted o (yielded ops a.tmps) = true := by simp [Region.wanted, hgd]
  rw [if_pos hw]
  exact wp_app hgd s x ho base ns ms g n c hs hn hown B m d hx hm hms hnil hlen hbase h
end
end Go.Proofs.YtffkaphbgfdpaaaGreatDoor.T
end

section
/- TypesFirst: the walk. -/
namespace Go.Proofs.YtffkaphbgfdpaaaGreatDoor.T
open Go.RowKit Go.Shelf
set_option linter.unusedVariables false
set_option maxRecDepth 100000
set_option linter.unusedSimpArgs false

theorem NodesOk.append {a b : List Node} (ha : NodesOk a) (hb : NodesOk b) (hl : a.length + b.length ≤ 1954687338260) : NodesOk (a ++ b) :=
  ⟨fun n hn => (List.mem_append.1 hn).elim (ha.bytes n) (hb.bytes n), fun n hn => (List.mem_append.1 hn).elim (ha.u32 n) (hb.u32 n), by rw [List.length_append]; exact hl⟩
theorem NodesOk.take {a : List Node} (ha : NodesOk a) (k : Nat) : NodesOk (a.take k) :=
  ⟨fun n hn => ha.bytes n (List.mem_of_mem_take hn), fun n hn => ha.u32 n (List.mem_of_mem_take hn), by rw [List.length_take]; have := ha.len; omega⟩
end Go.Proofs.YtffkaphbgfdpaaaGreatDoor.T
end

section
/- TypesWhole: the walk. -/
namespace Go.Proofs.YtffkaphbgfdpaaaGreatDoor.T
open Go.RowKit Go.Shelf
set_option linter.unusedVariables false
set_option maxRecDepth 100000
set_option linter.unusedSimpArgs false

/-- Append some nodes to a row of one's own, nil or not. -/
theorem wpList_app0 {ops : Array Oper} {o : Oper} {a : Act} {Q : Exit → Act → World → Prop} {w : World} {rest : List Oper} (hgd : o.guard = none) (s x : Operand)
    (ho : o.op = .call { callee := .builtin .append, args := #[s, x], argTypes := #[22, 22] })
    (base : Nat) (ns ms : List Node) (v : Value) (hs : a.eval s = v) (hown : OwnN w base v ns)
    (B : Option Addr) (m d : Nat) (hx : a.eval x = .slice B m d) (hm : m = ms.length) (hms : Ns w B ms) (hpos : 0 < ms.length)
    (hlen : ns.length + ms.length ≤ 1954687338260) (hbase : base ≤ w.heap.size)
    (h : ∀ g2 cap w' k, k = (ns ++ ms).length → OwnN w' base (.slice (some ⟨g2, 0, none⟩) k cap) (ns ++ ms) → Below base w w' → wpList Tryz.prog ops Q rest (a.put o.dst (.slice (some ⟨g2, 0, none⟩) k cap)) w') : wpList Tryz.prog ops Q (o :: rest) a w := by
  subst hm
  obtain ⟨i0, hi0, hz0, hz1, hz2⟩ := info_parts nodeInfos
  obtain ⟨b, off, rfl, hc⟩ := hms.cells hpos
  refine wpList_append_lies w hgd s x 22 ho base 37 i0 (.agg (enc Node.zero)) 24 72 Tryz.underlying22 hi0 hz0 hz1 hz2 rfl (by decide) v ns.length (flat ns) hs hown ⟨b, off, none⟩ ms.length d (flat ms) hx (flat_length ms) hc (flat_one ms) hpos (by simp only [maxLen]; omega) (by omega) hbase w.heap.size rfl ?_
  intro g2 cap w' h1 h2 h3 h4
  rw [← List.length_append] at h1 ⊢
  refine h g2 cap w' _ rfl ?_ ((Below.refl base w).grown h2 hbase fun k e => (own_lt hown e).1)
  unfold OwnN
  rw [flat_append]
  exact h1
theorem ns_one {w : World} {b o : Nat} {n : Node} (h : nodeAt w ⟨b, o, none⟩ = some n) : Ns w (some ⟨b, o, none⟩) [n] := by
  intro _
  refine ⟨b, o, rfl, fun i hi => ?_⟩
  obtain rfl : i = 0 := by simpa using hi
  simpa using h
/-- A slice of slices of nodes. -/
def Pts (w : World) (PA : Option Addr) (ls : List (List Node)) : Prop := ∀ i, i < ls.length → ∃ g g2 c, PA = some ⟨g, 0, none⟩ ∧ w.cell? ⟨g, i, none⟩ = some (.slice (some ⟨g2, 0, none⟩) (ls.getD i []).length c) ∧ Ns w (some ⟨g2, 0, none⟩) (ls.getD i [])
theorem Pts.later {w W : World} {PA : Option Addr} {ls : List (List Node)} (h : Pts w PA ls) (hb : Below w.heap.size w W) : Pts W PA ls := by
  intro i hi
  obtain ⟨g, g2, c, e, h1, h2⟩ := h i hi
  exact ⟨g, g2, c, e, (hb.cell (World.block_lt_of_cell? w _ h1)).trans h1, h2.later hb⟩
theorem Pts.of_own {w : World} {base g : Nat} {ls : List (List Node)} {gs : List (Nat × Nat)} (h : OwnNN w base g ls gs) : Pts w (some ⟨g, 0, none⟩) ls := fun i hi => ⟨g, _, _, rfl, h.row i hi, (h.own i hi).is⟩
theorem flatten_take {ls : List (List Node)} {i : Nat} (hi : i < ls.length) : (ls.take (i + 1)).flatten = (ls.take i).flatten ++ ls.getD i [] := by
  rw [List.take_add_one, List.getElem?_eq_getElem hi, List.flatten_append, List.getD_eq_getElem?_getD, List.getElem?_eq_getElem hi]
  simp
theorem getD_memL {ls : List (List Node)} {i : Nat} (hi : i < ls.length) : ls.getD i [] ∈ ls := by
  rw [List.getD_eq_getElem?_getD, List.getElem?_eq_getElem hi]
  exact List.getElem_mem hi
theorem flatten_len {ls : List (List Node)} (i : Nat) : (ls.take i).flatten.length ≤ ls.flatten.length := by
  have h : ls.flatten = (ls.take i).flatten ++ (ls.drop i).flatten := by rw [← List.flatten_append, List.take_append_drop]
  rw [h, List.length_append]
  omega
theorem part_len {ls : List (List Node)} {p : List Node} (h : p ∈ ls) : p.length ≤ ls.flatten.length := by
  obtain ⟨s, t, rfl⟩ := List.append_of_mem h
  simp
  omega
theorem part_ok {ns p : List Node} {ls : List (List Node)} {root : Node} (hok : NodesOk ns) (hf : ls.flatten ++ [root] = ns) (hp : p ∈ ls) : NodesOk p := by
  have hm : ∀ n ∈ p, n ∈ ns := fun n hn => by
    rw [← hf]
    exact List.mem_append_left _ (List.mem_flatten.2 ⟨p, hp, hn⟩)
  refine ⟨fun n hn => hok.bytes n (hm n hn), fun n hn => hok.u32 n (hm n hn), ?_⟩
  have h1 := part_len hp
  have h2 := congrArg List.length hf
  have h3 := hok.len
  rw [List.length_append] at h2
  omega
end Go.Proofs.YtffkaphbgfdpaaaGreatDoor.T
end

section
/- The document's own way to a tree's parts: plain. -/
namespace Go.Proofs.YtffkaphbgfdpaaaGreatDoor.T
open Go.RowKit Go.Shelf
set_option linter.unusedVariables false
set_option maxRecDepth 100000
set_option linter.unusedSimpArgs false

def arI (k : Int) : Int := match arityK k with
  | some a => (a : Int)
  | none => -1
theorem arI_some {k : Int} {a : Nat} (h : arityK k = some a) : arI k = a := by simp [arI, h]
theorem arI_none {k : Int} (h : arityK k = none) : arI k = -1 := by simp [arI, h]
theorem arI_range (k : Int) : -1 ≤ arI k ∧ arI k ≤ 2 := by
  cases h : arityK k with
  | none => rw [arI_none h]; omega
  | some a => have := (arityK_range h).2.2; rw [arI_some h]; omega
/-- How many trees are left behind each node. -/
def leftT : List Node → Int → Option Int
  | [], l => some l
  | n :: ns, l => if arI n.kind < 0 ∨ arI n.kind > l then none else leftT ns (l - arI n.kind + 1)
def treeB (ns : List Node) : Bool := decide (leftT ns 0 = some 1)
/-- Where the tree whose root lies ahead of a place begins. -/
def begT (ns : List Node) : Nat → Int → Nat
  | 0, _ => 0
  | i + 1, need => if need - 1 + arI (ns.getD i Node.zero).kind = 0 then i else begT ns i (need - 1 + arI (ns.getD i Node.zero).kind)
theorem begT_le (ns : List Node) : ∀ (i : Nat) (need : Int), begT ns i need ≤ i
  | 0, _ => Nat.le_refl _
  | i + 1, need => by
    unfold begT
    split
    · omega
    · have := begT_le ns i (need - 1 + arI (ns.getD i Node.zero).kind)
      omega
def refPartsT (ns : List Node) : Option (List (List Node)) :=
  if treeB ns = false then none
  else if arI (ns.getD (ns.length - 1) Node.zero).kind = 0 then some []
  else if arI (ns.getD (ns.length - 1) Node.zero).kind = 1 then some [(ns.take (ns.length - 1)).drop (begT ns (ns.length - 1) 1)]
  else some [ns.take (begT ns (ns.length - 1) 1), (ns.take (ns.length - 1)).drop (begT ns (ns.length - 1) 1)]
theorem downs_succ (st : List Int) (k : Nat) (at_ : Int) : downs st (k + 1) at_ = if at_ = 0 then none else downs st k (st.getD (at_.toNat - 1) 0) := rfl
theorem downs_add (st : List Int) : ∀ (k m : Nat) (at_ : Int), downs st (k + m) at_ = (downs st k at_).bind fun r => downs st m r
  | 0, m, at_ => by rw [Nat.zero_add]; rfl
  | k + 1, m, at_ => by
    rw [Nat.add_right_comm, downs_succ, downs_succ]
    by_cases hz : at_ = 0
    · rw [if_pos hz, if_pos hz]; rfl
    · rw [if_neg hz, if_neg hz]
      exact downs_add st k m _
theorem downs_zero (st : List Int) : ∀ (m : Nat), downs st (m + 1) 0 = none := fun m => by
  unfold downs
  rw [if_pos rfl]
/-- The way down sees what lies ahead alone. -/
theorem downs_pre {st : List Int} {r : Int} (hs : StartsOk st) : ∀ (k : Nat) (at_ : Int), 0 ≤ at_ → at_ ≤ st.length → downs (st ++ [r]) k at_ = downs st k at_
  | 0, at_, h0, h1 => rfl
  | k + 1, at_, h0, h1 => by
    unfold downs
    by_cases hz : at_ = 0
    · rw [if_pos hz, if_pos hz]
    · rw [if_neg hz, if_neg hz]
      have hi : at_.toNat - 1 < st.length := by omega
      rw [getD_snoc hi]
      have hb := hs _ hi
      exact downs_pre hs k _ hb.1 (by omega)
/-- Each start is where the way down leads. -/
def Sts (ns : List Node) (st : List Int) : Prop := ∀ j, j < ns.length → ∃ a, arityK (ns.getD j Node.zero).kind = some a ∧ downs st a (j : Int) = some (st.getD j 0)
/-- One node more. -/
theorem ofT_step {ns : List Node} {n : Node} {st : List Int} (h : ofT (ns ++ [n]) [] = some st) : ∃ st1 a r, ofT ns [] = some st1 ∧ arityK n.kind = some a ∧ downs st1 a st1.length = some r ∧ st = st1 ++ [r] := by
  rw [ofT_snoc] at h
  cases h1 : ofT ns [] with
  | none => rw [h1] at h; cases h
  | some st1 =>
    rw [h1] at h
    cases h2 : arityK n.kind with
    | none => rw [h2] at h; cases h
    | some a =>
      rw [h2] at h
      have h : addL st1 a = some st := h
      unfold addL at h
      cases hd : downs st1 a st1.length with
      | none => rw [hd] at h; cases h
      | some r =>
        rw [hd] at h
        exact ⟨st1, a, r, rfl, rfl, hd, (Option.some.inj h).symm⟩
theorem sts_of : ∀ (k : Nat) (ns : List Node) (st : List Int), ns.length = k → ofT ns [] = some st → Sts ns st
  | 0, ns, st, hk, h => fun j hj => by omega
  | k + 1, ns, st, hk, h => by
    have hl := last_eq (ns := ns) (by omega)
    obtain ⟨n, hn⟩ : ∃ n, ns.getD (ns.length - 1) Node.zero = n := ⟨_, rfl⟩
    rw [hn] at hl
    obtain ⟨m, hm⟩ : ∃ m, ns.take (ns.length - 1) = m := ⟨_, rfl⟩
    rw [hm] at hl
    have hml : m.length = k := by rw [← hm, List.length_take]; omega
    subst hl
    obtain ⟨st1, a, r, h1, ha, hd, rfl⟩ := ofT_step h
    obtain ⟨hs1, hl1⟩ := ofT_ok _ _ _ starts_nil h1
    have hl1 : st1.length = m.length := by simpa using hl1
    have ih := sts_of k m st1 hml h1
    intro j hj
    rw [List.length_append, List.length_cons, List.length_nil] at hj
    by_cases hjm : j < m.length
    · obtain ⟨a2, h2, h3⟩ := ih j hjm
      refine ⟨a2, ?_, ?_⟩
      · have e : (m ++ [n]).getD j Node.zero = m.getD j Node.zero := by
          simp only [List.getD_eq_getElem?_getD]
          rw [List.getElem?_append_left hjm]
        rw [e]
        exact h2
      · rw [getD_snoc (by omega), downs_pre hs1 _ _ (by omega) (by omega)]
        exact h3
    · have : j = m.length := by omega
      subst this
      refine ⟨a, ?_, ?_⟩
      · have e : (m ++ [n]).getD m.length Node.zero = n := by simp [List.getD_eq_getElem?_getD]
        rw [e]
        exact ha
      · rw [← hl1, getD_last, downs_pre hs1 _ _ (by omega) (by omega)]
        exact hd
/-- Going back from a place: the way down. -/
theorem beg_downs {ns : List Node} {st : List Int} (hS : Sts ns st) (hs : StartsOk st) (hl : st.length = ns.length) : ∀ (i : Nat) (a : Nat) (r : Int), i ≤ ns.length → 1 ≤ a → downs st a (i : Int) = some r → (begT ns i (a : Int) : Int) = r
  | 0, a, r, hi, ha, h => by
    obtain ⟨b, rfl⟩ : ∃ b, a = b + 1 := ⟨a - 1, by omega⟩
    rw [show ((0 : Nat) : Int) = 0 from rfl, downs_zero] at h
    cases h
  | i + 1, a, r, hi, ha, h => by
    obtain ⟨b, rfl⟩ : ∃ b, a = b + 1 := ⟨a - 1, by omega⟩
    obtain ⟨k, hk, hd⟩ := hS i (by omega)
    unfold downs at h
    rw [if_neg (by omega)] at h
    have e : ((i + 1 : Nat) : Int).toNat - 1 = i := by omega
    rw [e] at h
    have h2 : downs st (k + b) (i : Int) = some r := by
      rw [downs_add, hd]
      exact h
    unfold begT
    rw [arI_some hk]
    by_cases hz : (((b + 1 : Nat) : Int) - 1 + (k : Int)) = 0
    · rw [if_pos hz]
      have hk0 : k = 0 := by omega
      have hb0 : b = 0 := by omega
      subst hk0 hb0
      simp only [downs, Option.some.injEq] at h2
      exact h2
    · rw [if_neg hz]
      have e2 : (((b + 1 : Nat) : Int) - 1 + (k : Int)) = ((k + b : Nat) : Int) := by omega
      rw [e2]
      exact beg_downs hS hs hl i (k + b) r (by omega) (by omega) h2
/-- How many trees are left, and where each begins, go together. -/
theorem left_of : ∀ (ns : List Node) (st : List Int) (l : Nat), StartsOk st → downs st l st.length = some 0 →
    match ofT ns st with
    | none => leftT ns l = none
    | some st2 => ∃ l2 : Nat, leftT ns l = some (l2 : Int) ∧ downs st2 l2 st2.length = some 0
  | [], st, l, hs, hd => ⟨l, rfl, hd⟩
  | n :: ns, st, l, hs, hd => by
    simp only [ofT]
    unfold leftT
    cases ha : arityK n.kind with
    | none =>
      simp only
      rw [arI_none ha, if_pos (.inl (by omega))]
    | some a =>
      simp only
      rw [arI_some ha]
      by_cases hal : (a : Int) > (l : Int)
      · rw [if_pos (.inr hal)]
        have hn : addL st a = none := by
          obtain ⟨c, rfl⟩ : ∃ c, a = l + (c + 1) := ⟨a - l - 1, by omega⟩
          unfold addL
          rw [downs_add, hd]
          show Option.map _ (downs st (c + 1) 0) = none
          rw [downs_zero]
          rfl
        rw [hn]
      · rw [if_neg (by omega)]
        obtain ⟨c, rfl⟩ : ∃ c, l = a + c := ⟨l - a, by omega⟩
        rw [downs_add] at hd
        cases hr : downs st a st.length with
        | none => rw [hr] at hd; cases hd
        | some r =>
          rw [hr] at hd
          have hd : downs st c r = some 0 := hd
          have hadd : addL st a = some (st ++ [r]) := by unfold addL; rw [hr]; rfl
          rw [hadd]
          have hrr := downs_range hs a _ r (by omega) (Int.le_refl _) hr
          have e : ((a + c : Nat) : Int) - (a : Int) + 1 = ((c + 1 : Nat) : Int) := by omega
          rw [e]
          refine left_of ns (st ++ [r]) (c + 1) (hs.snoc hrr.1 hrr.2) ?_
          have e2 : (((st ++ [r]).length : Nat) : Int) = (st.length : Int) + 1 := by simp
          rw [e2]
          unfold downs
          rw [if_neg (by omega)]
          have e3 : ((st.length : Int) + 1).toNat - 1 = st.length := by omega
          rw [e3, getD_last, downs_pre hs _ _ hrr.1 hrr.2]
          exact hd
theorem tree_one {st : List Int} {l : Nat} (h : downs st l st.length = some 0) : oneB st = decide (l = 1) := by
  unfold oneB
  by_cases hl : l = 1
  · subst hl
    have hp := downs_one h
    unfold downs at h
    rw [if_neg (by omega)] at h
    have e : ((st.length : Nat) : Int).toNat - 1 = st.length - 1 := by omega
    rw [e] at h
    have h0 : st.getD (st.length - 1) 0 = 0 := by simpa [downs] using h
    rw [decide_eq_true rfl]
    exact decide_eq_true ⟨hp, h0⟩
  · rw [decide_eq_false hl]
    refine decide_eq_false fun hh => ?_
    obtain ⟨hp, h0⟩ := hh
    match l, hl, h with
    | 0, _, h =>
      simp only [downs, Option.some.injEq] at h
      omega
    | l + 2, _, h =>
      unfold downs at h
      rw [if_neg (by omega)] at h
      have e : ((st.length : Nat) : Int).toNat - 1 = st.length - 1 := by omega
      rw [e, h0, downs_zero] at h
      cases h
theorem treeB_of (ns : List Node) : treeB ns = match ofT ns [] with
    | none => false
    | some st => oneB st := by
  have h := left_of ns [] 0 starts_nil rfl
  unfold treeB
  cases ho : ofT ns [] with
  | none =>
    rw [ho] at h
    have h : leftT ns 0 = none := h
    rw [h]
    rfl
  | some st =>
    rw [ho] at h
    obtain ⟨l2, h1, h2⟩ := h
    have h1 : leftT ns 0 = some (l2 : Int) := h1
    simp only
    rw [h1, tree_one h2]
    by_cases hl : l2 = 1
    · subst hl; rfl
    · rw [decide_eq_false hl]
      refine decide_eq_false fun hh => ?_
      have := Option.some.inj hh
      omega
theorem ref_parts (ns : List Node) : refPartsT ns = partsT ns := by
  unfold refPartsT partsT
  rw [treeB_of]
  cases ho : ofT ns [] with
  | none => rfl
  | some st =>
    simp only
    by_cases h1 : oneB st = false
    · rw [if_pos h1, if_pos h1]
    · rw [if_neg h1, if_neg h1]
      have h1' : oneB st = true := by simpa using h1
      obtain ⟨hs, hl⟩ := ofT_ok ns [] st starts_nil ho
      have hl : st.length = ns.length := by simpa using hl
      obtain ⟨hp, hz⟩ := of_decide_eq_true h1'
      have hS := sts_of ns.length ns st rfl ho
      obtain ⟨a, ha, hd⟩ := hS (ns.length - 1) (by omega)
      rw [arI_some ha, ha]
      rw [← hl, hz] at hd
      simp only [Option.getD_some]
      have har := (arityK_range ha).2.2
      match a, ha, hd, har with
      | 0, ha, hd, har => rfl
      | 1, ha, hd, har =>
        rw [if_neg (by decide), if_pos (by decide)]
        have hb := beg_downs hS hs hl (ns.length - 1) 1 0 (by omega) (Nat.le_refl _) (by rw [← hl]; exact hd)
        have hb : begT ns (ns.length - 1) 1 = 0 := by
          have : ((begT ns (ns.length - 1) ((1 : Nat) : Int) : Nat) : Int) = 0 := hb
          have e : ((1 : Nat) : Int) = 1 := rfl
          rw [e] at this
          omega
        rw [hb]
        rfl
      | 2, ha, hd, har =>
        rw [if_neg (by decide), if_neg (by decide)]
        have h2 := hd
        unfold downs at h2
        by_cases hz2 : ((st.length - 1 : Nat) : Int) = 0
        · rw [if_pos hz2] at h2; cases h2
        rw [if_neg hz2] at h2
        have e : ((st.length - 1 : Nat) : Int).toNat - 1 = ns.length - 2 := by omega
        have hd1 : downs st 1 ((ns.length - 1 : Nat) : Int) = some (st.getD (ns.length - 2) 0) := by
          unfold downs
          rw [if_neg (by omega)]
          have e : ((ns.length - 1 : Nat) : Int).toNat - 1 = ns.length - 2 := by omega
          rw [e]
          rfl
        have hb := beg_downs hS hs hl (ns.length - 1) 1 _ (by omega) (Nat.le_refl _) hd1
        have hb : begT ns (ns.length - 1) 1 = (st.getD (ns.length - 2) 0).toNat := by
          have e : ((1 : Nat) : Int) = 1 := rfl
          rw [e] at hb
          omega
        rw [hb]
        rfl
end Go.Proofs.YtffkaphbgfdpaaaGreatDoor.T
end

section
/- The document's own Arity, Tree, Begin, Parts. -/
namespace Go.Proofs.YtffkaphbgfdpaaaGreatDoor.T
open Go.RowKit Go.Shelf
set_option linter.unusedVariables false
set_option maxRecDepth 100000
set_option linter.unusedSimpArgs false

theorem refarity_any (k : Int) (w : World) : Calls Tryz.prog 18 #[.int .i64 k] w fun e w' => e = .returned (.int .i64 (arI k)) ∧ w = w' := by
  go_enter Tryz.func18, Tryz.ntmps18
  go_wp2
  all_goals
    go_ret
    refine ⟨?_, rfl⟩
    simp only [beq_iff_eq, beq_eq_false_iff_ne, ne_eq] at *
    simp [arI, arityK, *]
theorem leftT_drop {ns : List Node} {i : Nat} (hi : i < ns.length) (l : Int) : leftT (ns.drop i) l = if arI (ns.getD i Node.zero).kind < 0 ∨ arI (ns.getD i Node.zero).kind > l then none else leftT (ns.drop (i + 1)) (l - arI (ns.getD i Node.zero).kind + 1) := by
  have e : ns.getD i Node.zero = ns[i] := by simp [List.getD_eq_getElem?_getD, List.getElem?_eq_getElem hi]
  rw [List.drop_eq_getElem_cons hi, e]
  rfl
theorem begT_succ (ns : List Node) (i : Nat) (need : Int) : begT ns (i + 1) need = if need - 1 + arI (ns.getD i Node.zero).kind = 0 then i else begT ns i (need - 1 + arI (ns.getD i Node.zero).kind) := rfl
end Go.Proofs.YtffkaphbgfdpaaaGreatDoor.T
end
