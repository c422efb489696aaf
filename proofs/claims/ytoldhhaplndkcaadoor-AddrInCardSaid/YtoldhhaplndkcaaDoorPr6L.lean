/- Plain laws: an address's text. -/
import Derived.Test.YtoldhhaplndkcaaDoorP6W
namespace Go.Proofs.YtoldhhaplndkcaaDoor
set_option linter.unusedVariables false
set_option linter.unusedSimpArgs false

/-- How many noughts stand from a place on. -/
def rowZ (zs : List Bool) (k : Nat) : Nat := ((zs.drop k).takeWhile id).length
/-- The document's longest row: one look more. -/
def stepR (zs : List Bool) (k : Nat) (a : Int × Nat) : Int × Nat := if a.2 < rowZ zs k then ((k : Int), rowZ zs k) else a
def gapR (zs : List Bool) : Nat → Int × Nat
  | 0 => (-1, 1)
  | k + 1 => stepR zs k (gapR zs k)
/-- The program's: the best row, the row now. -/
structure Nt where
  ba : Nat
  bn : Nat
  na : Nat
  nn : Nat
  deriving DecidableEq
def stepN (k : Nat) (z : Bool) (a : Nt) : Nt :=
  if z then
    let at_ := if a.na = 0 ∧ a.nn = 0 then k else a.na
    if a.bn < a.nn + 1 then ⟨at_, a.nn + 1, at_, a.nn + 1⟩ else ⟨a.ba, a.bn, at_, a.nn + 1⟩
  else ⟨a.ba, a.bn, 0, 0⟩
def gapN (zs : List Bool) : Nat → Nt
  | 0 => ⟨0, 0, 0, 0⟩
  | k + 1 => stepN k (zs.getD k false) (gapN zs k)
/-- What noughts answers. -/
def gapP (zs : List Bool) : Nat × Nat := if (gapN zs 8).bn < 2 then (0, 0) else ((gapN zs 8).ba, (gapN zs 8).bn)
def gapOk (zs : List Bool) : Bool := (decide ((gapR zs 8).1 = -1) && decide ((gapR zs 8).2 = 1) && decide (gapP zs = (0, 0))) || (decide (0 ≤ (gapR zs 8).1) && decide (2 ≤ (gapR zs 8).2) && decide ((gapR zs 8).1 + (gapR zs 8).2 ≤ 8) && decide (gapP zs = ((gapR zs 8).1.toNat, (gapR zs 8).2)))
theorem gap_all : ∀ b0 b1 b2 b3 b4 b5 b6 b7 : Bool, gapOk [b0, b1, b2, b3, b4, b5, b6, b7] = true := by decide +kernel
theorem gap_same {zs : List Bool} (h : zs.length = 8) : (gapR zs 8 = (-1, 1) ∧ gapP zs = (0, 0)) ∨ ∃ f l : Nat, gapR zs 8 = ((f : Int), l) ∧ gapP zs = (f, l) ∧ 2 ≤ l ∧ f + l ≤ 8 := by
  match zs, h with
  | [b0, b1, b2, b3, b4, b5, b6, b7], _ =>
    have h := gap_all b0 b1 b2 b3 b4 b5 b6 b7
    generalize [b0, b1, b2, b3, b4, b5, b6, b7] = zs at h
    unfold gapOk at h
    simp only [Bool.or_eq_true, Bool.and_eq_true, decide_eq_true_eq] at h
    rcases h with ⟨⟨h1, h2⟩, h3⟩ | ⟨⟨⟨h1, h2⟩, h3⟩, h4⟩
    · exact .inl ⟨Prod.ext h1 h2, h3⟩
    · refine .inr ⟨(gapR zs 8).1.toNat, (gapR zs 8).2, Prod.ext ?_ rfl, h4, h2, by omega⟩
      show (gapR zs 8).1 = ((gapR zs 8).1.toNat : Int)
      omega
/-- An address's flags: which groups are noughts. -/
def flags (gs : List Nat) : List Bool := gs.map fun g => g == 0
/-- The text, a row of l groups from f on left out (of none: l = 0). -/
def textG (gs : List Nat) (f l : Nat) : List UInt8 := if l = 0 then joinL 58 (gs.map hexL) else joinL 58 ((gs.take f).map hexL) ++ 58 :: 58 :: joinL 58 ((gs.drop (f + l)).map hexL)
def print6L (gs : List Nat) : List UInt8 := textG gs (gapP (flags gs)).1 (gapP (flags gs)).2
/-- The document's way through the groups. -/
def txR (gs : List Nat) (f : Int) (l : Nat) : Nat → Nat → List UInt8
  | 0, _ => []
  | n + 1, i => if 8 ≤ i then [] else if (i : Int) = f then 58 :: 58 :: txR gs f l n (i + l) else (if 0 < i ∧ (i : Int) ≠ f + l then [58] else []) ++ (hexL (gs.getD i 0) ++ txR gs f l n (i + 1))
/-- The program's: a group's piece. -/
def pieceP (gs : List Nat) (f l : Nat) (i : Nat) : List UInt8 := if l ≠ 0 ∧ f ≤ i ∧ i < f + l then (if i = f then [58, 58] else []) else (if 0 < i ∧ (l = 0 ∨ i ≠ f + l) then [58] else []) ++ hexL (gs.getD i 0)
def txP (gs : List Nat) (f l : Nat) : Nat → List UInt8
  | 0 => []
  | k + 1 => txP gs f l k ++ pieceP gs f l k
set_option maxRecDepth 100000 in
theorem txR_none (gs : List Nat) (h : gs.length = 8) : txR gs (-1) 1 9 0 = textG gs 0 0 := by
  match gs, h with
  | [g0, g1, g2, g3, g4, g5, g6, g7], _ => simp [txR, textG, joinL]
set_option maxRecDepth 100000 in
theorem txP_none (gs : List Nat) (h : gs.length = 8) : txP gs 0 0 8 = textG gs 0 0 := by
  match gs, h with
  | [g0, g1, g2, g3, g4, g5, g6, g7], _ => simp [txP, pieceP, textG, joinL]
set_option maxRecDepth 100000 in
set_option maxHeartbeats 4000000 in
theorem txR_gap0 (gs : List Nat) (l : Nat) (h : gs.length = 8) (hl : 2 ≤ l) (hf : 0 + l ≤ 8) : txR gs 0 l 9 0 = textG gs 0 l := by
  match gs, h with
  | [g0, g1, g2, g3, g4, g5, g6, g7], _ =>
    have hc : l = 2 ∨ l = 3 ∨ l = 4 ∨ l = 5 ∨ l = 6 ∨ l = 7 ∨ l = 8 := by omega
    rcases hc with rfl | rfl | rfl | rfl | rfl | rfl | rfl <;> simp [txR, textG, joinL]
set_option maxRecDepth 100000 in
set_option maxHeartbeats 4000000 in
theorem txR_gap1 (gs : List Nat) (l : Nat) (h : gs.length = 8) (hl : 2 ≤ l) (hf : 1 + l ≤ 8) : txR gs 1 l 9 0 = textG gs 1 l := by
  match gs, h with
  | [g0, g1, g2, g3, g4, g5, g6, g7], _ =>
    have hc : l = 2 ∨ l = 3 ∨ l = 4 ∨ l = 5 ∨ l = 6 ∨ l = 7 := by omega
    rcases hc with rfl | rfl | rfl | rfl | rfl | rfl <;> simp [txR, textG, joinL]
set_option maxRecDepth 100000 in
set_option maxHeartbeats 4000000 in
theorem txR_gap2 (gs : List Nat) (l : Nat) (h : gs.length = 8) (hl : 2 ≤ l) (hf : 2 + l ≤ 8) : txR gs 2 l 9 0 = textG gs 2 l := by
  match gs, h with
  | [g0, g1, g2, g3, g4, g5, g6, g7], _ =>
    have hc : l = 2 ∨ l = 3 ∨ l = 4 ∨ l = 5 ∨ l = 6 := by omega
    rcases hc with rfl | rfl | rfl | rfl | rfl <;> simp [txR, textG, joinL]
set_option maxRecDepth 100000 in
set_option maxHeartbeats 4000000 in
theorem txR_gap3 (gs : List Nat) (l : Nat) (h : gs.length = 8) (hl : 2 ≤ l) (hf : 3 + l ≤ 8) : txR gs 3 l 9 0 = textG gs 3 l := by
  match gs, h with
  | [g0, g1, g2, g3, g4, g5, g6, g7], _ =>
    have hc : l = 2 ∨ l = 3 ∨ l = 4 ∨ l = 5 := by omega
    rcases hc with rfl | rfl | rfl | rfl <;> simp [txR, textG, joinL]
set_option maxRecDepth 100000 in
set_option maxHeartbeats 4000000 in
theorem txR_gap4 (gs : List Nat) (l : Nat) (h : gs.length = 8) (hl : 2 ≤ l) (hf : 4 + l ≤ 8) : txR gs 4 l 9 0 = textG gs 4 l := by
  match gs, h with
  | [g0, g1, g2, g3, g4, g5, g6, g7], _ =>
    have hc : l = 2 ∨ l = 3 ∨ l = 4 := by omega
    rcases hc with rfl | rfl | rfl <;> simp [txR, textG, joinL]
set_option maxRecDepth 100000 in
set_option maxHeartbeats 4000000 in
theorem txR_gap5 (gs : List Nat) (l : Nat) (h : gs.length = 8) (hl : 2 ≤ l) (hf : 5 + l ≤ 8) : txR gs 5 l 9 0 = textG gs 5 l := by
  match gs, h with
  | [g0, g1, g2, g3, g4, g5, g6, g7], _ =>
    have hc : l = 2 ∨ l = 3 := by omega
    rcases hc with rfl | rfl <;> simp [txR, textG, joinL]
set_option maxRecDepth 100000 in
set_option maxHeartbeats 4000000 in
theorem txR_gap6 (gs : List Nat) (l : Nat) (h : gs.length = 8) (hl : 2 ≤ l) (hf : 6 + l ≤ 8) : txR gs 6 l 9 0 = textG gs 6 l := by
  match gs, h with
  | [g0, g1, g2, g3, g4, g5, g6, g7], _ =>
    have hc : l = 2 := by omega
    rcases hc with rfl <;> simp [txR, textG, joinL]
theorem txR_gap (gs : List Nat) (f l : Nat) (h : gs.length = 8) (hl : 2 ≤ l) (hf : f + l ≤ 8) : txR gs (f : Int) l 9 0 = textG gs f l := by
  match f, hf with
  | 0, hf => exact txR_gap0 gs l h hl hf
  | 1, hf => exact txR_gap1 gs l h hl hf
  | 2, hf => exact txR_gap2 gs l h hl hf
  | 3, hf => exact txR_gap3 gs l h hl hf
  | 4, hf => exact txR_gap4 gs l h hl hf
  | 5, hf => exact txR_gap5 gs l h hl hf
  | 6, hf => exact txR_gap6 gs l h hl hf
  | f + 7, hf => omega
set_option maxRecDepth 100000 in
set_option maxHeartbeats 4000000 in
theorem txP_gap0 (gs : List Nat) (l : Nat) (h : gs.length = 8) (hl : 2 ≤ l) (hf : 0 + l ≤ 8) : txP gs 0 l 8 = textG gs 0 l := by
  match gs, h with
  | [g0, g1, g2, g3, g4, g5, g6, g7], _ =>
    have hc : l = 2 ∨ l = 3 ∨ l = 4 ∨ l = 5 ∨ l = 6 ∨ l = 7 ∨ l = 8 := by omega
    rcases hc with rfl | rfl | rfl | rfl | rfl | rfl | rfl <;> simp [txP, pieceP, textG, joinL]
set_option maxRecDepth 100000 in
set_option maxHeartbeats 4000000 in
theorem txP_gap1 (gs : List Nat) (l : Nat) (h : gs.length = 8) (hl : 2 ≤ l) (hf : 1 + l ≤ 8) : txP gs 1 l 8 = textG gs 1 l := by
  match gs, h with
  | [g0, g1, g2, g3, g4, g5, g6, g7], _ =>
    have hc : l = 2 ∨ l = 3 ∨ l = 4 ∨ l = 5 ∨ l = 6 ∨ l = 7 := by omega
    rcases hc with rfl | rfl | rfl | rfl | rfl | rfl <;> simp [txP, pieceP, textG, joinL]
set_option maxRecDepth 100000 in
set_option maxHeartbeats 4000000 in
theorem txP_gap2 (gs : List Nat) (l : Nat) (h : gs.length = 8) (hl : 2 ≤ l) (hf : 2 + l ≤ 8) : txP gs 2 l 8 = textG gs 2 l := by
  match gs, h with
  | [g0, g1, g2, g3, g4, g5, g6, g7], _ =>
    have hc : l = 2 ∨ l = 3 ∨ l = 4 ∨ l = 5 ∨ l = 6 := by omega
    rcases hc with rfl | rfl | rfl | rfl | rfl <;> simp [txP, pieceP, textG, joinL]
set_option maxRecDepth 100000 in
set_option maxHeartbeats 4000000 in
theorem txP_gap3 (gs : List Nat) (l : Nat) (h : gs.length = 8) (hl : 2 ≤ l) (hf : 3 + l ≤ 8) : txP gs 3 l 8 = textG gs 3 l := by
  match gs, h with
  | [g0, g1, g2, g3, g4, g5, g6, g7], _ =>
    have hc : l = 2 ∨ l = 3 ∨ l = 4 ∨ l = 5 := by omega
    rcases hc with rfl | rfl | rfl | rfl <;> simp [txP, pieceP, textG, joinL]
set_option maxRecDepth 100000 in
set_option maxHeartbeats 4000000 in
theorem txP_gap4 (gs : List Nat) (l : Nat) (h : gs.length = 8) (hl : 2 ≤ l) (hf : 4 + l ≤ 8) : txP gs 4 l 8 = textG gs 4 l := by
  match gs, h with
  | [g0, g1, g2, g3, g4, g5, g6, g7], _ =>
    have hc : l = 2 ∨ l = 3 ∨ l = 4 := by omega
    rcases hc with rfl | rfl | rfl <;> simp [txP, pieceP, textG, joinL]
set_option maxRecDepth 100000 in
set_option maxHeartbeats 4000000 in
theorem txP_gap5 (gs : List Nat) (l : Nat) (h : gs.length = 8) (hl : 2 ≤ l) (hf : 5 + l ≤ 8) : txP gs 5 l 8 = textG gs 5 l := by
  match gs, h with
  | [g0, g1, g2, g3, g4, g5, g6, g7], _ =>
    have hc : l = 2 ∨ l = 3 := by omega
    rcases hc with rfl | rfl <;> simp [txP, pieceP, textG, joinL]
set_option maxRecDepth 100000 in
set_option maxHeartbeats 4000000 in
theorem txP_gap6 (gs : List Nat) (l : Nat) (h : gs.length = 8) (hl : 2 ≤ l) (hf : 6 + l ≤ 8) : txP gs 6 l 8 = textG gs 6 l := by
  match gs, h with
  | [g0, g1, g2, g3, g4, g5, g6, g7], _ =>
    have hc : l = 2 := by omega
    rcases hc with rfl <;> simp [txP, pieceP, textG, joinL]
theorem txP_gap (gs : List Nat) (f l : Nat) (h : gs.length = 8) (hl : 2 ≤ l) (hf : f + l ≤ 8) : txP gs f l 8 = textG gs f l := by
  match f, hf with
  | 0, hf => exact txP_gap0 gs l h hl hf
  | 1, hf => exact txP_gap1 gs l h hl hf
  | 2, hf => exact txP_gap2 gs l h hl hf
  | 3, hf => exact txP_gap3 gs l h hl hf
  | 4, hf => exact txP_gap4 gs l h hl hf
  | 5, hf => exact txP_gap5 gs l h hl hf
  | 6, hf => exact txP_gap6 gs l h hl hf
  | f + 7, hf => omega
end Go.Proofs.YtoldhhaplndkcaaDoor
