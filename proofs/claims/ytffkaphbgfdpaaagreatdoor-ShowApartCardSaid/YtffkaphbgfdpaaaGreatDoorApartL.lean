/- ShowApart: two filters with one text are one. Plain. -/
import Derived.Test.YtffkaphbgfdpaaaGreatDoorMALTa
import Derived.Test.YtffkaphbgfdpaaaGreatDoorShowQ
import Derived.Test.YtffkaphbgfdpaaaGreatDoorMTc
namespace Go.Proofs.YtffkaphbgfdpaaaGreatDoor
open Go.RowKit Go.Shelf T
set_option linter.unusedVariables false
set_option linter.unusedSimpArgs false
set_option maxRecDepth 100000

/-- Each node has the parts that its kind wants. -/
def Typed : Tr → Prop
  | .leaf _ => True
  | .un n x => truthK x.root.kind = wantsK n.kind ∧ Typed x
  | .bin n x y => truthK x.root.kind = wantsK n.kind ∧ truthK y.root.kind = wantsK n.kind ∧ Typed x ∧ Typed y
theorem go_app : ∀ (a b : List Node) (st : List Int) (ps : List Part), goT (a ++ b) st ps = (goT a st ps).bind fun r => goT b r.1 r.2
  | [], b, st, ps => rfl
  | n :: a, b, st, ps => by
    show goT (n :: (a ++ b)) st ps = (goT (n :: a) st ps).bind _
    rw [goT_cons, goT_cons]
    by_cases h : (T.stepT n st ps).1 ≠ 0
    · rw [if_pos h, if_pos h]; rfl
    · rw [if_neg h, if_neg h]
      exact go_app a b _ _
theorem made_truth {n : Node} {t w : Bool} {kids : List Part} (h : (madeL n t w kids).2 = 0) : (madeL n t w kids).1.truth = t := by
  unfold madeL at h ⊢
  by_cases hb : kidsBad w kids = true
  · rw [if_pos hb] at h
    cases w <;> simp at h
  · rw [if_neg hb]
    repeat' split
    all_goals rfl
theorem go_one {n : Node} {st : List Int} {ps : List Part} {r : List Int × List Part} (h : goT [n] st ps = some r) : ∃ a st2, arityK n.kind = some a ∧ addL st a = some st2 ∧ (∀ p ∈ kidsL a st ps, p.truth = wantsK n.kind) ∧ ∃ q : Part, q.truth = truthK n.kind ∧ r = (st2, ps ++ [q]) := by
  rw [goT_cons] at h
  by_cases hs : (T.stepT n st ps).1 ≠ 0
  · rw [if_pos hs] at h; cases h
  · rw [if_neg hs] at h
    obtain ⟨a, st2, h1, h2, -, h4, -, -, h7⟩ := stepT_ok (Decidable.not_not.1 hs)
    rw [h7] at h
    have h : some (st2, ps ++ [(madeL n (truthK n.kind) (wantsK n.kind) (kidsL a st ps)).1]) = some r := h
    exact ⟨a, st2, h1, h2, made_kids h4, _, made_truth h4, (Option.some.inj h).symm⟩
theorem getD_len {α : Type} {a b : List α} {d : α} (hb : 0 < b.length) : (a ++ b).getD (a.length + b.length - 1) d = b.getD (b.length - 1) d := by
  rw [show a.length + b.length - 1 = a.length + (b.length - 1) from by omega]
  exact getD_right _
theorem typed_go : ∀ (x : Tr) (fs : List Tr) (ps : List Part) (r : List Int × List Part), x.Fit → ps.length = (flatR fs).length → goT x.flat (startsR fs) ps = some r → Typed x ∧ ∃ qs : List Part, r = (startsR (x :: fs), ps ++ qs) ∧ qs.length = x.flat.length ∧ (qs.getD (qs.length - 1) Part.zero).truth = truthK x.root.kind
  | .leaf n, fs, ps, r, hF, hl, h => by
    obtain ⟨a, st2, h1, h2, h3, q, hq, rfl⟩ := go_one h
    have ha : arityK n.kind = some 0 := hF
    obtain rfl : a = 0 := by rw [ha] at h1; exact (Option.some.inj h1).symm
    rw [addL_pile, if_neg (by omega)] at h2
    refine ⟨trivial, [q], ?_, rfl, hq⟩
    rw [← Option.some.inj h2]
    simp [startsR, Tr.starts]
  | .un n x, fs, ps, r, hF, hl, h => by
    have h : goT (x.flat ++ [n]) (startsR fs) ps = some r := h
    rw [go_app] at h
    cases hx : goT x.flat (startsR fs) ps with
    | none => rw [hx] at h; cases h
    | some r1 =>
      rw [hx] at h
      obtain ⟨t1, qs, rfl, q1, q2⟩ := typed_go x fs ps r1 hF.2 hl hx
      have h : goT [n] (startsR (x :: fs)) (ps ++ qs) = some r := h
      obtain ⟨a, st2, h1, h2, h3, q, hq, rfl⟩ := go_one h
      have ha : arityK n.kind = some 1 := hF.1
      obtain rfl : a = 1 := by rw [ha] at h1; exact (Option.some.inj h1).symm
      have hp := x.flat_pos
      have hst : (startsR (x :: fs)).length = ps.length + qs.length := by rw [startsR_len, flatR, List.length_append, hl, q1]
      have hk := h3 ((ps ++ qs).getD ((startsR (x :: fs)).length - 1) Part.zero) (by simp [kidsL])
      rw [hst, getD_len (by omega), q2] at hk
      rw [addL_pile, if_neg (by simp)] at h2
      refine ⟨⟨hk, t1⟩, qs ++ [q], ?_, by simp [Tr.flat, q1], by simpa [Tr.root] using hq⟩
      rw [← Option.some.inj h2]
      simp [startsR, Tr.starts]
  | .bin n x y, fs, ps, r, hF, hl, h => by
    have h : goT (x.flat ++ (y.flat ++ [n])) (startsR fs) ps = some r := h
    rw [go_app] at h
    cases hx : goT x.flat (startsR fs) ps with
    | none => rw [hx] at h; cases h
    | some r1 =>
      rw [hx] at h
      obtain ⟨t1, qx, rfl, q1, q2⟩ := typed_go x fs ps r1 hF.2.1 hl hx
      have h : goT (y.flat ++ [n]) (startsR (x :: fs)) (ps ++ qx) = some r := h
      rw [go_app] at h
      cases hy : goT y.flat (startsR (x :: fs)) (ps ++ qx) with
      | none => rw [hy] at h; cases h
      | some r2 =>
        rw [hy] at h
        have hl2 : (ps ++ qx).length = (flatR (x :: fs)).length := by rw [flatR, List.length_append, List.length_append, hl, q1]
        obtain ⟨t2, qy, rfl, p1, p2⟩ := typed_go y (x :: fs) (ps ++ qx) r2 hF.2.2 hl2 hy
        have h : goT [n] (startsR (y :: x :: fs)) (ps ++ qx ++ qy) = some r := h
        obtain ⟨a, st2, h1, h2, h3, q, hq, rfl⟩ := go_one h
        have ha : arityK n.kind = some 2 := hF.1
        obtain rfl : a = 2 := by rw [ha] at h1; exact (Option.some.inj h1).symm
        have hpx := x.flat_pos
        have hpy := y.flat_pos
        have hst : (startsR (y :: x :: fs)).length = (ps ++ qx).length + qy.length := by rw [startsR_len, flatR, List.length_append, hl2, p1]
        have hlast : (startsR (y :: x :: fs)).getD ((startsR (y :: x :: fs)).length - 1) 0 = ((ps ++ qx).length : Int) := by
          obtain ⟨l, e, hll⟩ := y.starts_last (flatR (x :: fs)).length
          have e2 : startsR (y :: x :: fs) = (startsR (x :: fs) ++ l) ++ [((flatR (x :: fs)).length : Int)] := by
            show startsR (x :: fs) ++ y.starts _ = _
            rw [e, List.append_assoc]
          have := getD_right (a := startsR (x :: fs) ++ l) (b := [((flatR (x :: fs)).length : Int)]) (d := (0 : Int)) 0
          rw [e2, show ((startsR (x :: fs) ++ l) ++ [((flatR (x :: fs)).length : Int)]).length - 1 = (startsR (x :: fs) ++ l).length + 0 from by simp, this, hl2]
          rfl
        have hk1 := h3 ((ps ++ qx ++ qy).getD ((startsR (y :: x :: fs)).getD ((startsR (y :: x :: fs)).length - 1) 0 - 1).toNat Part.zero) (by simp [kidsL])
        have hk2 := h3 ((ps ++ qx ++ qy).getD ((startsR (y :: x :: fs)).length - 1) Part.zero) (by simp [kidsL])
        rw [hlast] at hk1
        have e1 : (((ps ++ qx).length : Int) - 1).toNat = ps.length + qx.length - 1 := by rw [List.length_append]; omega
        rw [e1, getD_left (by rw [List.length_append]; omega), getD_len (by omega), q2] at hk1
        rw [hst, getD_len (by omega), p2] at hk2
        rw [addL_pile, if_neg (by simp)] at h2
        refine ⟨⟨hk1, hk2, t1, t2⟩, qx ++ (qy ++ [q]), ?_, by simp [Tr.flat, q1, p1], ?_⟩
        · rw [← Option.some.inj h2]
          simp [startsR, Tr.starts, flatR]
        · have := getD_len (a := qx ++ qy) (b := [q]) (d := Part.zero) (by simp)
          have e3 : qx ++ (qy ++ [q]) = (qx ++ qy) ++ [q] := by simp
          rw [e3, show ((qx ++ qy) ++ [q]).length - 1 = (qx ++ qy).length + [q].length - 1 from by simp, this]
          exact hq
theorem no_truth : ∀ x : Tr, x.Fit → Typed x → truthK x.root.kind = false → ∀ m ∈ x.flat, truthK m.kind = false
  | .leaf n, _, _, h, m, hm => by
    have : m = n := by simpa [Tr.flat] using hm
    rw [this]; exact h
  | .un n x, hF, hT, h, m, hm => by
    have h6 : n.kind < 6 := by have := of_decide_eq_false h; simp only [Tr.root] at this; omega
    have hw : wantsK n.kind = false := by simp [wantsK]; omega
    rcases List.mem_append.1 (show m ∈ x.flat ++ [n] from hm) with hm | hm
    · exact no_truth x hF.2 hT.2 (by rw [hT.1, hw]) m hm
    · rw [List.mem_singleton.1 hm]; exact h
  | .bin n x y, hF, hT, h, m, hm => by
    have h6 : n.kind < 6 := by have := of_decide_eq_false h; simp only [Tr.root] at this; omega
    have hw : wantsK n.kind = false := by simp [wantsK]; omega
    rcases List.mem_append.1 (show m ∈ x.flat ++ (y.flat ++ [n]) from hm) with hm | hm
    · exact no_truth x hF.2.1 hT.2.2.1 (by rw [hT.1, hw]) m hm
    · rcases List.mem_append.1 hm with hm | hm
      · exact no_truth y hF.2.2 hT.2.2.2 (by rw [hT.2.1, hw]) m hm
      · rw [List.mem_singleton.1 hm]; exact h
theorem calm_typed : ∀ x : Tr, x.Fit → Typed x → Calm x
  | .leaf n, _, _ => trivial
  | .un n x, hF, hT => ⟨fun h3 m hm => by
      have := no_truth x hF.2 hT.2 (by rw [hT.1, h3]; rfl) m hm
      have := of_decide_eq_false this
      omega, calm_typed x hF.2 hT.2⟩
  | .bin n x y, hF, hT => ⟨calm_typed x hF.2.1 hT.2.2.1, calm_typed y hF.2.2 hT.2.2.2⟩
/-- What Show and Full give of a list that they take: its tree, and all that is known of it. -/
theorem told_tree {full : Bool} {ns : List Node} (hok : NodesOk ns) (h : (toldL full ns).2 = 0) : ∃ t : Tr, t.Fit ∧ t.flat = ns ∧ AllF t ∧ Typed t ∧ Calm t ∧ (checkT ns).2 = 0 ∧ (saidT full t).2 ≤ 200 ∧ (toldL full ns).1 = (saidT full t).1 := by
  have hc : (checkT ns).2 = 0 := by
    unfold toldL at h
    by_cases hc : (checkT ns).2 ≠ 0
    · rw [if_pos hc] at h; cases h
    · simpa using hc
  obtain ⟨t, hF, rfl, hof, -, -⟩ := filter_fine hok hc
  obtain ⟨hr, -, -⟩ := check_ok hc
  have hg := (go_of_run t.flat 0 [] [] hr).1
  have hall := go_all t.flat [] [] _ hg
  obtain ⟨hT, -⟩ := typed_go t [] [] _ hF rfl hg
  refine ⟨t, hF, rfl, fun n hn => ⟨(hall n hn).1, (hall n hn).2.1, (hall n hn).2.2, hok.bytes n hn, hok.u32 n hn⟩, hT, calm_typed t hF hT, hc, ?_⟩
  unfold toldL at h ⊢
  rw [if_neg (by simpa using hc), treeN_flat hF] at h ⊢
  by_cases hd : 200 < (saidT full t).2
  · rw [if_pos hd] at h; cases h
  · rw [if_neg hd]; exact ⟨by omega, rfl⟩
theorem apart {full : Bool} {aa ns : List Node} (ha : NodesOk aa) (hn : NodesOk ns) (h1 : (toldL full aa).2 = 0) (h2 : (toldL full ns).2 = 0) : (toldL full aa).1 = (toldL full ns).1 ↔ aa = ns := by
  refine ⟨fun h => ?_, fun h => by rw [h]⟩
  obtain ⟨t, a1, rfl, a2, -, a3, -, a4, a5⟩ := told_tree ha h1
  obtain ⟨u, b1, rfl, b2, -, b3, -, b4, b5⟩ := told_tree hn h2
  rw [a5, b5] at h
  exact said_inj a1 a2 a3 a4 b1 b2 b3 b4 h
end Go.Proofs.YtffkaphbgfdpaaaGreatDoor
