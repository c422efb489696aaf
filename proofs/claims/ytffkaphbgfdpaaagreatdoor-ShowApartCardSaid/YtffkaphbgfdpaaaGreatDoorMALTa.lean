/- ParL, ParC, ParD, ParF, ParG, ParH, ParI, ParJ, ParK, one behind the other. -/
import Derived.Test.YtffkaphbgfdpaaaGreatDoorMATa
import Derived.Test.YtffkaphbgfdpaaaGreatDoorMALa
import Derived.Test.YtffkaphbgfdpaaaGreatDoorMAc
import Derived.Test.YtffkaphbgfdpaaaGreatDoorMTc
section
/- What package parse makes of tokens: plain. -/
namespace Go.Proofs.YtffkaphbgfdpaaaGreatDoor
open T
open L (Tk)
set_option linter.unusedVariables false
set_option linter.unusedSimpArgs false

def xOr : ByteArray := bs [111, 114]
def xOrS : ByteArray := bs [124, 124]
def xAnd : ByteArray := bs [97, 110, 100]
def xAndS : ByteArray := bs [38, 38]
def xNot : ByteArray := bs [110, 111, 116]
def xNotS : ByteArray := bs [33]
def xEq : ByteArray := bs [61]
def xEqEq : ByteArray := bs [61, 61]
def xNe : ByteArray := bs [33, 61]
def xLt : ByteArray := bs [60]
def xLe : ByteArray := bs [60, 61]
def xGt : ByteArray := bs [62]
def xGe : ByteArray := bs [62, 61]
def xBar : ByteArray := bs [124]
def xHat : ByteArray := bs [94]
def xAmp : ByteArray := bs [38]
def xShl : ByteArray := bs [60, 60]
def xShr : ByteArray := bs [62, 62]
def xPlus : ByteArray := bs [43]
def xDash : ByteArray := bs [45]
def xStar : ByteArray := bs [42]
def xSlash : ByteArray := bs [47]
def xPct : ByteArray := bs [37]
def xLp : ByteArray := bs [40]
def xRp : ByteArray := bs [41]
def xLb : ByteArray := bs [91]
def xRb : ByteArray := bs [93]
def xColon : ByteArray := bs [58]
def xLen : ByteArray := bs [108, 101, 110]
def xInbound : ByteArray := bs [105, 110, 98, 111, 117, 110, 100]
def xOutbound : ByteArray := bs [111, 117, 116, 98, 111, 117, 110, 100]
def xProto : ByteArray := bs [112, 114, 111, 116, 111]
def xSrc : ByteArray := bs [115, 114, 99]
def xDst : ByteArray := bs [100, 115, 116]
def xHost : ByteArray := bs [104, 111, 115, 116]
def xNet : ByteArray := bs [110, 101, 116]
def xPort : ByteArray := bs [112, 111, 114, 116]
def xPortrange : ByteArray := bs [112, 111, 114, 116, 114, 97, 110, 103, 101]

/-- How far tokens are read, and what lies. -/
structure Ps where
  at_ : Nat
  nodes : List Node
  places : List Int
abbrev ER := Except (Int × Int)
abbrev tkEnd : Tk := ⟨0, 0, ⟨#[]⟩, 0⟩
abbrev OpT := ByteArray × Node
def Ps.adv (s : Ps) : Ps := { s with at_ := s.at_ + 1 }
def Ps.lay (s : Ps) (n : Node) (place : Int) : Ps := { s with nodes := s.nodes ++ [n], places := s.places ++ [place] }
section
variable (ts : List Tk)
def nowT (s : Ps) : Tk := ts.getD s.at_ tkEnd
def isT (s : Ps) (x : ByteArray) : Bool := (decide ((nowT ts s).kind = 2) || decide ((nowT ts s).kind = 5)) && decide ((nowT ts s).text = x)
def failT {α : Type} (why : Int) (s : Ps) : ER α := .error (if (nowT ts s).kind = 0 then 110 else why, (nowT ts s).at0)
def mustT (x : ByteArray) (s : Ps) : ER Ps := if isT ts s x then .ok s.adv else failT ts 111 s
def kindT (k : Int) (s : Ps) : ER (Tk × Ps) := if (nowT ts s).kind = k then .ok (nowT ts s, s.adv) else failT ts 111 s
def oneT (next : Ps → ER Ps) : List OpT → Ps → ER (Bool × Ps)
  | [], s => .ok (false, s)
  | o :: os, s => if isT ts s o.1 then (next s.adv).bind fun s2 => .ok (true, s2.lay o.2 (nowT ts s).at0) else oneT next os s
def loopT (next : Ps → ER Ps) (ops : List OpT) : Nat → Ps → ER Ps
  | 0, s => .ok s
  | g + 1, s => (oneT ts next ops s).bind fun r => if r.1 then loopT next ops g r.2 else .ok r.2
def rowT (next : Ps → ER Ps) (ops : List OpT) (s : Ps) : ER Ps := (next s).bind fun s1 => loopT ts next ops (ts.length + 1 - s1.at_) s1
def orOps : List OpT := [(xOr, { Node.zero with kind := 8 }), (xOrS, { Node.zero with kind := 8 })]
def andOps : List OpT := [(xAnd, { Node.zero with kind := 7 }), (xAndS, { Node.zero with kind := 7 })]
def relOps : List OpT := [(xEq, { Node.zero with kind := 6, op := 1 }), (xEqEq, { Node.zero with kind := 6, op := 1 }), (xNe, { Node.zero with kind := 6, op := 2 }), (xLt, { Node.zero with kind := 6, op := 3 }), (xLe, { Node.zero with kind := 6, op := 4 }), (xGt, { Node.zero with kind := 6, op := 5 }), (xGe, { Node.zero with kind := 6, op := 6 })]
def bitOps : List OpT := [(xBar, { Node.zero with kind := 4, op := 7 })]
def xorOps : List OpT := [(xHat, { Node.zero with kind := 4, op := 8 })]
def ampOps : List OpT := [(xAmp, { Node.zero with kind := 4, op := 6 })]
def shiftOps : List OpT := [(xShl, { Node.zero with kind := 4, op := 9 }), (xShr, { Node.zero with kind := 4, op := 10 })]
def sumOps : List OpT := [(xPlus, { Node.zero with kind := 4, op := 1 }), (xDash, { Node.zero with kind := 4, op := 2 })]
def prodOps : List OpT := [(xStar, { Node.zero with kind := 4, op := 3 }), (xSlash, { Node.zero with kind := 4, op := 4 }), (xPct, { Node.zero with kind := 4, op := 5 })]
/-- What a word speaks of; 0: of nothing. -/
def ofT2 (x : ByteArray) : Int := if x = bs [] then 0 else
  match nameW.findIdx? (fun y => decide (bs y = x)) with
  | some i => i
  | none => 0
def bytesOf (l : List Nat) : A16 := ⟨l.getD 0 0, l.getD 1 0, l.getD 2 0, l.getD 3 0, l.getD 4 0, l.getD 5 0, l.getD 6 0, l.getD 7 0, l.getD 8 0, l.getD 9 0, l.getD 10 0, l.getD 11 0, l.getD 12 0, l.getD 13 0, l.getD 14 0, l.getD 15 0⟩
/-- An address: what it is of, its bytes. -/
def addrT (s : Ps) : ER ((Int × A16) × Ps) :=
  if (nowT ts s).kind = 3 then
    match p4L (nowT ts s).text.data.toList with
    | some a => .ok ((2, bytesOf a), s.adv)
    | none => failT ts 112 s
  else if (nowT ts s).kind = 4 then
    match p6L (nowT ts s).text.data.toList with
    | some gs => .ok ((3, bytesOf (bytesG gs)), s.adv)
    | none => failT ts 112 s
  else failT ts 111 s
def sideT (s : Ps) : Int × Ps := if isT ts s xSrc then (1, s.adv) else if isT ts s xDst then (2, s.adv) else (0, s)
def endsT2 (t : Tk) (what side : Int) (s : Ps) : ER Ps :=
  if isT ts s xPort then (kindT ts 1 s.adv).bind fun r => .ok (r.2.lay { Node.zero with kind := 16, of := what, side := side, n := r.1.n, m := r.1.n } t.at0)
  else if isT ts s xPortrange then (kindT ts 1 s.adv).bind fun r => (mustT ts xDash r.2).bind fun s2 => (kindT ts 1 s2).bind fun q =>
    .ok (q.2.lay { Node.zero with kind := 16, of := what, side := side, n := r.1.n, m := q.1.n } t.at0)
  else if what = 0 ∧ isT ts s xHost = true then (addrT ts s.adv).bind fun r => .ok (r.2.lay { Node.zero with kind := 14, of := r.1.1, side := side, addr := r.1.2 } t.at0)
  else if what = 0 ∧ isT ts s xNet = true then (addrT ts s.adv).bind fun r => (mustT ts xSlash r.2).bind fun s2 => (kindT ts 1 s2).bind fun q =>
    .ok (q.2.lay { Node.zero with kind := 15, of := r.1.1, side := side, addr := r.1.2, bits := q.1.n } t.at0)
  else failT ts 111 s
def endsT (t : Tk) (what : Int) (s : Ps) : ER Ps := endsT2 ts t what (sideT ts s).1 (sideT ts s).2
/-- What stands within. -/
structure Inner where
  or_ : Ps → ER Ps
  not_ : Ps → ER Ps
  minus_ : Ps → ER Ps
def deepT {α : Type} (s : Ps) : ER α := .error (113, (nowT ts s).at0)
variable (I : Option Inner)
def loadT (t : Tk) (what : Int) (s : Ps) : ER Ps :=
  match I with
  | none => deepT ts s
  | some i => (i.or_ s.adv).bind fun s2 =>
    (if isT ts s2 xColon then (kindT ts 1 s2.adv).bind fun r => .ok (r.1.n, r.2) else .ok (1, s2)).bind fun r =>
      (mustT ts xRb r.2).bind fun s4 => .ok (s4.lay { Node.zero with kind := 3, of := what, size := r.1 } t.at0)
def nameT (t : Tk) (s : Ps) : ER Ps :=
  if ofT2 t.text = 0 then failT ts 111 s
  else if ofT2 t.text ≠ 13 ∧ isT ts s.adv xLb = true then loadT ts I t (ofT2 t.text) s.adv
  else if (ofT2 t.text = 2 ∨ ofT2 t.text = 3) ∧ isT ts s.adv xProto = true then (kindT ts 1 s.adv.adv).bind fun r => .ok (r.2.lay { Node.zero with kind := 13, of := ofT2 t.text, n := r.1.n } t.at0)
  else if (ofT2 t.text = 4 ∨ ofT2 t.text = 5) ∧ (isT ts s.adv xSrc || isT ts s.adv xDst || isT ts s.adv xPort || isT ts s.adv xPortrange) = true then endsT ts t (ofT2 t.text) s.adv
  else if ofT2 t.text = 1 then failT ts 111 s.adv
  else .ok (s.adv.lay { Node.zero with kind := 11, of := ofT2 t.text } t.at0)
def wordT (t : Tk) (s : Ps) : ER Ps :=
  if t.text = xLen then .ok (s.adv.lay { Node.zero with kind := 2 } t.at0)
  else if t.text = xInbound then .ok (s.adv.lay { Node.zero with kind := 10, side := 1 } t.at0)
  else if t.text = xOutbound then .ok (s.adv.lay { Node.zero with kind := 10, side := 2 } t.at0)
  else if t.text = xProto then (kindT ts 1 s.adv).bind fun r => .ok (r.2.lay { Node.zero with kind := 12, n := r.1.n } t.at0)
  else if t.text = xSrc ∨ t.text = xDst ∨ t.text = xHost ∨ t.text = xNet ∨ t.text = xPort ∨ t.text = xPortrange then endsT ts t 0 s
  else nameT ts I t s
def partT (s : Ps) : ER Ps :=
  if (nowT ts s).kind = 1 then .ok (s.adv.lay { Node.zero with kind := 1, n := (nowT ts s).n } (nowT ts s).at0)
  else if (nowT ts s).kind = 2 then wordT ts I (nowT ts s) s
  else if isT ts s xLp then
    match I with
    | none => deepT ts s
    | some i => (i.or_ s.adv).bind fun s2 => mustT ts xRp s2
  else failT ts 111 s
def minusT (s : Ps) : ER Ps :=
  if isT ts s xDash then
    match I with
    | none => deepT ts s
    | some i => (i.minus_ s.adv).bind fun s2 => .ok (s2.lay { Node.zero with kind := 5 } (nowT ts s).at0)
  else partT ts I s
def prodT : Ps → ER Ps := rowT ts (minusT ts I) prodOps
def sumT : Ps → ER Ps := rowT ts (prodT ts I) sumOps
def shiftT : Ps → ER Ps := rowT ts (sumT ts I) shiftOps
def ampT : Ps → ER Ps := rowT ts (shiftT ts I) ampOps
def xorT : Ps → ER Ps := rowT ts (ampT ts I) xorOps
def bitT : Ps → ER Ps := rowT ts (xorT ts I) bitOps
def relT (s : Ps) : ER Ps := (bitT ts I s).bind fun s1 => (oneT ts (bitT ts I) relOps s1).bind fun r => .ok r.2
def notT (s : Ps) : ER Ps :=
  if isT ts s xNot || isT ts s xNotS then
    match I with
    | none => deepT ts s
    | some i => (i.not_ s.adv).bind fun s2 => .ok (s2.lay { Node.zero with kind := 9 } (nowT ts s).at0)
  else relT ts I s
def andT : Ps → ER Ps := rowT ts (notT ts I) andOps
def orT : Ps → ER Ps := rowT ts (andT ts I) orOps
def innerT : Inner := ⟨orT ts I, notT ts I, minusT ts I⟩
end
/-- What may stand where so many may be opened. -/
def levT (ts : List Tk) : Nat → Inner
  | 0 => innerT ts none
  | d + 1 => innerT ts (some (levT ts d))
/-- Parse of tokens. -/
def parseT (ts : List Tk) : ER Ps := ((levT ts 200).or_ ⟨0, [], []⟩).bind fun s => if (nowT ts s).kind = 0 then .ok s else failT ts 111 s
end Go.Proofs.YtffkaphbgfdpaaaGreatDoor
end

section
/- A tree's tokens; how rows of the grammar read. Plain. -/
namespace Go.Proofs.YtffkaphbgfdpaaaGreatDoor
open T
open L (Tk)
set_option linter.unusedVariables false
set_option linter.unusedSimpArgs false
set_option maxRecDepth 100000

/-- A token without its place. -/
abbrev Tb := Int × ByteArray × Int
def tbOf (t : Tk) : Tb := (t.kind, t.text, t.n)
def wK (l : List UInt8) : Tb := (2, bs l, 0)
def sK (l : List UInt8) : Tb := (5, bs l, 0)
def nK (v : Int) : Tb := (1, bs (numL v), v)
def sideK (s : Int) : List Tb := if s = 0 then [] else if s = 1 then [wK [115, 114, 99]] else [wK [100, 115, 116]]
def aK (n : Node) : Tb := (if n.of = 3 then 4 else 3, bs (addrL n), 0)
def leafK (n : Node) : List Tb :=
  if n.kind = 1 then [nK n.n]
  else if n.kind = 2 then [wK [108, 101, 110]]
  else if n.kind = 10 then [wK (at_ wayW n.side)]
  else if n.kind = 11 then [wK (nameL n.of)]
  else if n.kind = 12 then [wK [112, 114, 111, 116, 111], nK n.n]
  else if n.kind = 13 then [wK (nameL n.of), wK [112, 114, 111, 116, 111], nK n.n]
  else if n.kind = 14 then sideK n.side ++ [wK [104, 111, 115, 116], aK n]
  else if n.kind = 15 then sideK n.side ++ [wK [110, 101, 116], aK n, sK [47], nK n.bits]
  else (if n.of = 0 then [] else [wK (nameL n.of)]) ++ (sideK n.side ++ (if n.n = n.m then [wK [112, 111, 114, 116], nK n.n] else [wK [112, 111, 114, 116, 114, 97, 110, 103, 101], nK n.n, sK [45], nK n.m]))
def opK (n : Node) : Tb := if n.kind = 7 ∨ n.kind = 8 then wK (signL n) else sK (signL n)
def endK (n : Node) : List Tb := if n.size = 1 then [sK [93]] else [sK [58], nK n.size, sK [93]]
def putK (bare : Bool) (l : List Tb) : List Tb := if bare then l else sK [40] :: (l ++ [sK [41]])
/-- A tree's tokens. -/
def toksT (full : Bool) : Tr → List Tb
  | .leaf n => leafK n
  | .un n x => if n.kind = 3 then wK (nameL n.of) :: sK [91] :: (toksT full x ++ endK n)
    else (if n.kind = 5 then sK [45] else wK [110, 111, 116]) :: putK (bareB full n true (rowK x.root)) (toksT full x)
  | .bin n x y => putK (bareB full n false (rowK x.root)) (toksT full x) ++ opK n :: putK (bareB full n true (rowK y.root)) (toksT full y)
/-- Is it a word or a sign of this text? -/
def isB (b : Tb) (x : ByteArray) : Bool := (decide (b.1 = 2) || decide (b.1 = 5)) && decide (b.2.1 = x)
/-- What is ahead. -/
def Ah (ts : List Tk) (s : Ps) (l : List Tb) : Prop := (ts.drop s.at_).map tbOf = l
theorem Ah.now {ts : List Tk} {s : Ps} {b : Tb} {l : List Tb} (h : Ah ts s (b :: l)) : tbOf (nowT ts s) = b ∧ Ah ts s.adv l ∧ s.at_ < ts.length := by
  unfold Ah at h
  have hlt : s.at_ < ts.length := by
    rcases Nat.lt_or_ge s.at_ ts.length with k | k
    · exact k
    · rw [List.drop_eq_nil_of_le k] at h; cases h
  rw [List.drop_eq_getElem_cons hlt, List.map_cons] at h
  obtain ⟨h1, h2⟩ := List.cons.inj h
  refine ⟨?_, ?_, hlt⟩
  · unfold nowT
    rw [List.getD_eq_getElem?_getD, List.getElem?_eq_getElem hlt]
    exact h1
  · unfold Ah Ps.adv
    exact h2
theorem Ah.is {ts : List Tk} {s : Ps} {b : Tb} {l : List Tb} (h : Ah ts s (b :: l)) (x : ByteArray) : isT ts s x = isB b x := by
  have h1 := h.now.1
  unfold isT isB
  rw [← h1]
  rfl
theorem Ah.kind {ts : List Tk} {s : Ps} {b : Tb} {l : List Tb} (h : Ah ts s (b :: l)) : (nowT ts s).kind = b.1 := by rw [← h.now.1]; rfl
theorem Ah.text {ts : List Tk} {s : Ps} {b : Tb} {l : List Tb} (h : Ah ts s (b :: l)) : (nowT ts s).text = b.2.1 := by rw [← h.now.1]; rfl
theorem Ah.n {ts : List Tk} {s : Ps} {b : Tb} {l : List Tb} (h : Ah ts s (b :: l)) : (nowT ts s).n = b.2.2 := by rw [← h.now.1]; rfl
theorem Ah.lay {ts : List Tk} {s : Ps} {l : List Tb} (h : Ah ts s l) (n : Node) (p : Int) : Ah ts (s.lay n p) l := h
def opsOf : Nat → List OpT
  | 1 => orOps
  | 2 => andOps
  | 4 => relOps
  | 5 => bitOps
  | 6 => xorOps
  | 7 => ampOps
  | 8 => shiftOps
  | 9 => sumOps
  | 10 => prodOps
  | _ => []
/-- What a part's end must not be followed by, at row q. -/
def barOf (q : Nat) : List ByteArray := [xLb, xProto, xSrc, xDst, xPort, xPortrange] ++ ((List.range 11).filter (fun k => decide (q ≤ k))).flatMap fun k => (opsOf k).map (·.1)
def okR (q : Nat) (b : Tb) : Prop := ∀ x ∈ barOf q, isB b x = false
theorem okR.ops {q k : Nat} {b : Tb} (h : okR q b) (hk : q ≤ k) (hk2 : k ≤ 10) : ∀ o ∈ opsOf k, isB b o.1 = false := fun o ho =>
  h o.1 (List.mem_append_right _ (List.mem_flatMap.2 ⟨k, List.mem_filter.2 ⟨List.mem_range.2 (by omega), decide_eq_true hk⟩, List.mem_map.2 ⟨o, ho, rfl⟩⟩))
theorem okR.mono {q r : Nat} {b : Tb} (h : okR q b) (hr : q ≤ r) : okR r b := fun x hx => by
  rcases List.mem_append.1 hx with hx | hx
  · exact h x (List.mem_append_left _ hx)
  · obtain ⟨k, hk, hx⟩ := List.mem_flatMap.1 hx
    obtain ⟨h1, h2⟩ := List.mem_filter.1 hk
    exact h x (List.mem_append_right _ (List.mem_flatMap.2 ⟨k, List.mem_filter.2 ⟨h1, decide_eq_true (Nat.le_trans hr (of_decide_eq_true h2))⟩, hx⟩))
/-- The reader of row q. -/
def rowF (ts : List Tk) (I : Option Inner) : Nat → Ps → ER Ps
  | 1 => orT ts I
  | 2 => andT ts I
  | 3 => notT ts I
  | 4 => relT ts I
  | 5 => bitT ts I
  | 6 => xorT ts I
  | 7 => ampT ts I
  | 8 => shiftT ts I
  | 9 => sumT ts I
  | 10 => prodT ts I
  | 11 => minusT ts I
  | _ => partT ts I
def loops (q : Nat) : Bool := decide (q = 1) || decide (q = 2) || (decide (5 ≤ q) && decide (q ≤ 10))
theorem rowF_loop (ts : List Tk) (I : Option Inner) {q : Nat} (h : loops q = true) : rowF ts I q = rowT ts (rowF ts I (q + 1)) (opsOf q) := by
  have : q = 1 ∨ q = 2 ∨ q = 5 ∨ q = 6 ∨ q = 7 ∨ q = 8 ∨ q = 9 ∨ q = 10 := by
    simp [loops] at h; omega
  rcases this with rfl | rfl | rfl | rfl | rfl | rfl | rfl | rfl <;> rfl
/-- f reads these tokens as these nodes, where what follows is such. -/
def Pr (ts : List Tk) (f : Ps → ER Ps) (l : List Tb) (ns : List Node) (ok : Tb → Prop) : Prop := ∀ s b rest, Ah ts s (l ++ b :: rest) → ok b → ∃ s', f s = .ok s' ∧ s'.nodes = s.nodes ++ ns ∧ Ah ts s' (b :: rest) ∧ s.at_ < s'.at_
theorem one_none {ts : List Tk} {next : Ps → ER Ps} {s : Ps} {b : Tb} {l : List Tb} (hA : Ah ts s (b :: l)) : ∀ (ops : List OpT), (∀ o ∈ ops, isB b o.1 = false) → oneT ts next ops s = .ok (false, s)
  | [], _ => rfl
  | o :: os, h => by
    unfold oneT
    rw [if_neg (by rw [hA.is, h o List.mem_cons_self]; simp)]
    exact one_none hA os fun x hx => h x (List.mem_cons_of_mem _ hx)
theorem one_some {ts : List Tk} {next : Ps → ER Ps} {s : Ps} {b : Tb} {l : List Tb} (hA : Ah ts s (b :: l)) {o : OpT} {post : List OpT} (ho : isB b o.1 = true) : ∀ (pre : List OpT), (∀ p ∈ pre, isB b p.1 = false) →
    oneT ts next (pre ++ o :: post) s = (next s.adv).bind fun s2 => .ok (true, s2.lay o.2 (nowT ts s).at0)
  | [], _ => by
    show oneT ts next (o :: post) s = _
    unfold oneT
    rw [if_pos (by rw [hA.is, ho])]
  | p :: pre, h => by
    show oneT ts next (p :: (pre ++ o :: post)) s = _
    unfold oneT
    rw [if_neg (by rw [hA.is, h p List.mem_cons_self]; simp)]
    exact one_some hA ho pre fun x hx => h x (List.mem_cons_of_mem _ hx)
/-- A row that loops reads these, and stands then where it would stand behind them. -/
def Ab (ts : List Tk) (I : Option Inner) (q : Nat) (l : List Tb) (ns : List Node) : Prop := ∀ s b rest, Ah ts s (l ++ b :: rest) → okR (q + 1) b →
  ∃ s1 s' c, rowF ts I (q + 1) s = .ok s1 ∧ s1.at_ + c ≤ s'.at_ ∧ (∀ g, loopT ts (rowF ts I (q + 1)) (opsOf q) (c + g) s1 = loopT ts (rowF ts I (q + 1)) (opsOf q) g s') ∧ s'.nodes = s.nodes ++ ns ∧ Ah ts s' (b :: rest) ∧ s.at_ < s'.at_
theorem ab_of_pr {ts : List Tk} {I : Option Inner} {q : Nat} {l : List Tb} {ns : List Node} (h : Pr ts (rowF ts I (q + 1)) l ns (okR (q + 1))) : Ab ts I q l ns := fun s b rest hA hb => by
  obtain ⟨s', h1, h2, h3, h4⟩ := h s b rest hA hb
  exact ⟨s', s', 0, h1, Nat.le_refl _, fun g => by rw [Nat.zero_add], h2, h3, h4⟩
theorem loop_stop {ts : List Tk} {next : Ps → ER Ps} {ops : List OpT} {s : Ps} {b : Tb} {l : List Tb} (hA : Ah ts s (b :: l)) (h : ∀ o ∈ ops, isB b o.1 = false) (g : Nat) : loopT ts next ops (g + 1) s = .ok s := by
  unfold loopT
  rw [one_none hA ops h]
  rfl
theorem pr_of_ab {ts : List Tk} {I : Option Inner} {q : Nat} {l : List Tb} {ns : List Node} (hq : loops q = true) (hq2 : q ≤ 10) (h : Ab ts I q l ns) : Pr ts (rowF ts I q) l ns (okR q) := fun s b rest hA hb => by
  obtain ⟨s1, s', c, h1, h2, h3, h4, h5, h6⟩ := h s b rest hA (hb.mono (Nat.le_succ _))
  refine ⟨s', ?_, h4, h5, h6⟩
  rw [rowF_loop ts I hq]
  unfold rowT
  rw [h1]
  show loopT ts _ _ (ts.length + 1 - s1.at_) s1 = _
  have hlt := h5.now.2.2
  obtain ⟨g, hg⟩ : ∃ g, ts.length + 1 - s1.at_ = c + (g + 1) := ⟨ts.length - s1.at_ - c, by omega⟩
  rw [hg, h3]
  exact loop_stop h5 (hb.ops (Nat.le_refl _) hq2) g
theorem ab_step {ts : List Tk} {I : Option Inner} {q : Nat} {lx ly : List Tb} {nx ny : List Node} {op : Tb} {n : Node} {pre post : List OpT} {o : OpT} (hops : opsOf q = pre ++ o :: post) (hpre : ∀ p ∈ pre, isB op p.1 = false) (ho : isB op o.1 = true) (hn : o.2 = n) (hop : okR (q + 1) op)
    (hx : Ab ts I q lx nx) (hy : Pr ts (rowF ts I (q + 1)) ly ny (okR (q + 1))) : Ab ts I q (lx ++ op :: ly) (nx ++ (ny ++ [n])) := fun s b rest hA hb => by
  have hA2 : Ah ts s (lx ++ op :: (ly ++ b :: rest)) := by
    have : lx ++ op :: (ly ++ b :: rest) = lx ++ op :: ly ++ b :: rest := by simp
    rw [this]; exact hA
  obtain ⟨s1, sx, c, h1, h2, h3, h4, h5, h6⟩ := hx s op _ hA2 hop
  obtain ⟨s2, g1, g2, g3, g4⟩ := hy sx.adv b rest h5.now.2.1 hb
  have hadv : sx.adv.at_ = sx.at_ + 1 := rfl
  refine ⟨s1, s2.lay n (nowT ts sx).at0, c + 1, h1, ?_, fun g => ?_, ?_, g3.lay _ _, ?_⟩
  · show s1.at_ + (c + 1) ≤ s2.at_
    omega
  · rw [Nat.add_assoc, h3, Nat.add_comm 1 g]
    conv => lhs; unfold loopT
    rw [hops, one_some h5 ho pre hpre, g1, hn]
    rfl
  · show s2.nodes ++ [n] = _
    rw [g2]
    show (sx.nodes ++ ny) ++ [n] = _
    rw [h4]
    simp
  · show s.at_ < s2.at_
    omega
end Go.Proofs.YtffkaphbgfdpaaaGreatDoor
end

section
/- How leaves read. Plain. -/
namespace Go.Proofs.YtffkaphbgfdpaaaGreatDoor
open Go.RowKit Go.Shelf T
open L (Tk)
set_option linter.unusedVariables false
set_option linter.unusedSimpArgs false
set_option maxRecDepth 100000

/-- A node of a filter. -/
structure NF (n : Node) : Prop where
  ar : ∃ a, arityK n.kind = some a
  un : unusedB n.kind n = true
  fit : fitsB n.kind n = true
  bytes : T.Node.bytes n
  u32 : isU32 n.n
theorem kind_pr {ts : List Tk} {s : Ps} {b : Tb} {l : List Tb} (h : Ah ts s (b :: l)) {k : Int} (hk : b.1 = k) : kindT ts k s = .ok (nowT ts s, s.adv) := by
  unfold kindT
  rw [if_pos (by rw [h.kind, hk])]
theorem must_pr {ts : List Tk} {s : Ps} {b : Tb} {l : List Tb} (h : Ah ts s (b :: l)) {x : ByteArray} (hx : isB b x = true) : mustT ts x s = .ok s.adv := by
  unfold mustT
  rw [if_pos (by rw [h.is, hx])]
theorem isW (l m : List UInt8) : isB (wK l) (bs m) = decide (bs l = bs m) := rfl
theorem name_facts {o : Int} (h1 : 1 ≤ o) (h2 : o ≤ 13) : (bs (nameL o) ≠ xLen ∧ bs (nameL o) ≠ xInbound ∧ bs (nameL o) ≠ xOutbound ∧ bs (nameL o) ≠ xProto) ∧
    (bs (nameL o) ≠ xSrc ∧ bs (nameL o) ≠ xDst ∧ bs (nameL o) ≠ xHost ∧ bs (nameL o) ≠ xNet ∧ bs (nameL o) ≠ xPort ∧ bs (nameL o) ≠ xPortrange) ∧ ofT2 (bs (nameL o)) = o := by
  have : o = 1 ∨ o = 2 ∨ o = 3 ∨ o = 4 ∨ o = 5 ∨ o = 6 ∨ o = 7 ∨ o = 8 ∨ o = 9 ∨ o = 10 ∨ o = 11 ∨ o = 12 ∨ o = 13 := by omega
  rcases this with rfl | rfl | rfl | rfl | rfl | rfl | rfl | rfl | rfl | rfl | rfl | rfl | rfl <;> decide +kernel
theorem word_name {ts : List Tk} {I : Option Inner} {s : Ps} {t : Tk} {o : Int} (h1 : 1 ≤ o) (h2 : o ≤ 13) (ht : t.text = bs (nameL o)) : wordT ts I t s = nameT ts I t s := by
  obtain ⟨⟨a1, a2, a3, a4⟩, ⟨b1, b2, b3, b4, b5, b6⟩, -⟩ := name_facts h1 h2
  unfold wordT
  rw [ht, if_neg a1, if_neg a2, if_neg a3, if_neg a4, if_neg (by simp [b1, b2, b3, b4, b5, b6])]
theorem bar_mem (q : Nat) {x : ByteArray} (h : x ∈ [xLb, xProto, xSrc, xDst, xPort, xPortrange]) : x ∈ barOf q := List.mem_append_left _ h
theorem leaf_num {ts : List Tk} {I : Option Inner} {n : Node} (hn : NF n) (hk : n.kind = 1) : Pr ts (partT ts I) (leafK n) [n] (okR 12) := fun s b rest hA hb => by
  have hu := hn.un
  obtain ⟨k, op, v, mm, sz, of, sd, ad, bt⟩ := n
  simp only at hk
  subst hk
  simp [unusedB, onlyB, Node.zero] at hu
  obtain ⟨rfl, rfl, rfl, rfl, rfl, rfl, rfl⟩ := hu
  have hA : Ah ts s (nK v :: b :: rest) := by simpa [leafK] using hA
  refine ⟨s.adv.lay ⟨1, 0, v, 0, 0, 0, 0, _, 0⟩ (nowT ts s).at0, ?_, rfl, hA.now.2.1, Nat.lt_succ_self _⟩
  unfold partT
  rw [if_pos (by rw [hA.kind]; rfl), hA.n]
  rfl
theorem leaf_word {ts : List Tk} {I : Option Inner} {s : Ps} {l : List UInt8} {r : List Tb} (hA : Ah ts s (wK l :: r)) : partT ts I s = wordT ts I (nowT ts s) s ∧ (nowT ts s).text = bs l := by
  refine ⟨?_, hA.text⟩
  unfold partT
  rw [if_neg (by rw [hA.kind]; simp [wK]), if_pos (by rw [hA.kind]; rfl)]
theorem leaf_len {ts : List Tk} {I : Option Inner} {n : Node} (hn : NF n) (hk : n.kind = 2) : Pr ts (partT ts I) (leafK n) [n] (okR 12) := fun s b rest hA hb => by
  have hu := hn.un
  obtain ⟨k, op, v, mm, sz, of, sd, ad, bt⟩ := n
  simp only at hk
  subst hk
  simp [unusedB, onlyB, Node.zero] at hu
  obtain ⟨rfl, rfl, rfl, rfl, rfl, rfl, rfl, rfl⟩ := hu
  have hA : Ah ts s (wK [108, 101, 110] :: b :: rest) := by simpa [leafK] using hA
  obtain ⟨h1, h2⟩ := leaf_word (I := I) hA
  refine ⟨s.adv.lay ⟨2, 0, 0, 0, 0, 0, 0, _, 0⟩ (nowT ts s).at0, ?_, rfl, hA.now.2.1, Nat.lt_succ_self _⟩
  rw [h1]
  unfold wordT
  rw [if_pos (by rw [h2]; rfl)]
  rfl
theorem leaf_way {ts : List Tk} {I : Option Inner} {n : Node} (hn : NF n) (hk : n.kind = 10) : Pr ts (partT ts I) (leafK n) [n] (okR 12) := fun s b rest hA hb => by
  have hu := hn.un
  obtain ⟨k, op, v, mm, sz, of, sd, ad, bt⟩ := n
  simp only at hk
  subst hk
  simp [unusedB, onlyB, Node.zero, inR] at hu
  obtain ⟨⟨rfl, rfl, rfl, rfl, rfl, rfl, rfl⟩, l1, l2⟩ := hu
  have hs : sd = 1 ∨ sd = 2 := by omega
  have hA : Ah ts s (wK (at_ wayW sd) :: b :: rest) := by simpa [leafK] using hA
  obtain ⟨h1, h2⟩ := leaf_word (I := I) hA
  refine ⟨s.adv.lay ⟨10, 0, 0, 0, 0, 0, sd, _, 0⟩ (nowT ts s).at0, ?_, rfl, hA.now.2.1, Nat.lt_succ_self _⟩
  rw [h1]
  unfold wordT
  rcases hs with rfl | rfl
  · rw [if_neg (by rw [h2]; decide +kernel), if_pos (by rw [h2]; decide +kernel)]
    rfl
  · rw [if_neg (by rw [h2]; decide +kernel), if_neg (by rw [h2]; decide +kernel), if_pos (by rw [h2]; decide +kernel)]
    rfl
theorem leaf_name {ts : List Tk} {I : Option Inner} {n : Node} (hn : NF n) (hk : n.kind = 11) : Pr ts (partT ts I) (leafK n) [n] (okR 12) := fun s b rest hA hb => by
  have hu := hn.un
  obtain ⟨k, op, v, mm, sz, of, sd, ad, bt⟩ := n
  simp only at hk
  subst hk
  simp [unusedB, onlyB, Node.zero, inR] at hu
  obtain ⟨⟨rfl, rfl, rfl, rfl, rfl, rfl, rfl⟩, l1, l2⟩ := hu
  have hA : Ah ts s (wK (nameL of) :: b :: rest) := by simpa [leafK] using hA
  obtain ⟨h1, h2⟩ := leaf_word (I := I) hA
  have h3 := hA.now.2.1
  refine ⟨s.adv.lay ⟨11, 0, 0, 0, 0, of, 0, _, 0⟩ (nowT ts s).at0, ?_, rfl, h3, Nat.lt_succ_self _⟩
  rw [h1, word_name (o := of) (by omega) l2 h2]
  unfold nameT
  rw [h2, (name_facts (o := of) (by omega) l2).2.2]
  simp only [h3.is, hb _ (bar_mem 12 (x := xLb) (by simp)), hb _ (bar_mem 12 (x := xProto) (by simp)), hb _ (bar_mem 12 (x := xSrc) (by simp)), hb _ (bar_mem 12 (x := xDst) (by simp)), hb _ (bar_mem 12 (x := xPort) (by simp)), hb _ (bar_mem 12 (x := xPortrange) (by simp))]
  rw [if_neg (by omega), if_neg (by simp), if_neg (by simp), if_neg (by simp), if_neg (by omega)]
  rfl
theorem leaf_proto {ts : List Tk} {I : Option Inner} {n : Node} (hn : NF n) (hk : n.kind = 12) : Pr ts (partT ts I) (leafK n) [n] (okR 12) := fun s b rest hA hb => by
  have hu := hn.un
  obtain ⟨k, op, v, mm, sz, of, sd, ad, bt⟩ := n
  simp only at hk
  subst hk
  simp [unusedB, onlyB, Node.zero, inR] at hu
  obtain ⟨rfl, rfl, rfl, rfl, rfl, rfl, rfl⟩ := hu
  have hA : Ah ts s (wK [112, 114, 111, 116, 111] :: nK v :: b :: rest) := by simpa [leafK] using hA
  obtain ⟨h1, h2⟩ := leaf_word (I := I) hA
  have h3 := hA.now.2.1
  refine ⟨s.adv.adv.lay ⟨12, 0, v, 0, 0, 0, 0, _, 0⟩ (nowT ts s).at0, ?_, rfl, h3.now.2.1, by show s.at_ < s.at_ + 1 + 1; omega⟩
  rw [h1]
  unfold wordT
  rw [if_neg (by rw [h2]; decide +kernel), if_neg (by rw [h2]; decide +kernel), if_neg (by rw [h2]; decide +kernel), if_pos (by rw [h2]; rfl), kind_pr h3 (k := 1) rfl]
  show Except.ok (s.adv.adv.lay { Node.zero with kind := 12, n := (nowT ts s.adv).n } (nowT ts s).at0) = _
  rw [h3.n]
  rfl
theorem leaf_next {ts : List Tk} {I : Option Inner} {n : Node} (hn : NF n) (hk : n.kind = 13) : Pr ts (partT ts I) (leafK n) [n] (okR 12) := fun s b rest hA hb => by
  have hu := hn.un
  obtain ⟨k, op, v, mm, sz, of, sd, ad, bt⟩ := n
  simp only at hk
  subst hk
  simp [unusedB, onlyB, Node.zero, inR] at hu
  obtain ⟨⟨rfl, rfl, rfl, rfl, rfl, rfl⟩, l1, l2⟩ := hu
  have hA : Ah ts s (wK (nameL of) :: wK [112, 114, 111, 116, 111] :: nK v :: b :: rest) := by simpa [leafK] using hA
  obtain ⟨h1, h2⟩ := leaf_word (I := I) hA
  have h3 := hA.now.2.1
  have h4 := h3.now.2.1
  refine ⟨s.adv.adv.adv.lay ⟨13, 0, v, 0, 0, of, 0, _, 0⟩ (nowT ts s).at0, ?_, rfl, h4.now.2.1, by show s.at_ < s.at_ + 1 + 1 + 1; omega⟩
  rw [h1, word_name (o := of) (by omega) (by omega) h2]
  unfold nameT
  rw [h2, (name_facts (o := of) (by omega) (by omega)).2.2]
  simp only [h3.is]
  rw [if_neg (by omega), if_neg (by rw [show isB (wK [112, 114, 111, 116, 111]) xLb = false from by decide +kernel]; simp), if_pos ⟨by omega, by decide +kernel⟩, kind_pr h4 (k := 1) rfl]
  show Except.ok (s.adv.adv.adv.lay { Node.zero with kind := 13, of := of, n := (nowT ts s.adv.adv).n } (nowT ts s).at0) = _
  rw [h4.n]
  rfl
end Go.Proofs.YtffkaphbgfdpaaaGreatDoor
end

section
/- How hosts, nets and ports read. Plain. -/
namespace Go.Proofs.YtffkaphbgfdpaaaGreatDoor
open Go.RowKit Go.Shelf T
open L (Tk)
set_option linter.unusedVariables false
set_option linter.unusedSimpArgs false
set_option maxRecDepth 100000

theorem side_pr {ts : List Tk} {s : Ps} {c : Tb} {r : List Tb} {sd : Int} (h0 : 0 ≤ sd) (h2 : sd ≤ 2) (hA : Ah ts s (sideK sd ++ c :: r)) (c1 : isB c xSrc = false) (c2 : isB c xDst = false) :
    ∃ s', sideT ts s = (sd, s') ∧ s'.nodes = s.nodes ∧ Ah ts s' (c :: r) ∧ s.at_ ≤ s'.at_ := by
  have : sd = 0 ∨ sd = 1 ∨ sd = 2 := by omega
  rcases this with rfl | rfl | rfl
  · have hA : Ah ts s (c :: r) := hA
    refine ⟨s, ?_, rfl, hA, Nat.le_refl _⟩
    unfold sideT
    rw [hA.is, hA.is, c1, c2]
    rfl
  · have hA : Ah ts s (wK [115, 114, 99] :: c :: r) := hA
    refine ⟨s.adv, ?_, rfl, hA.now.2.1, Nat.le_succ _⟩
    unfold sideT
    rw [if_pos (by rw [hA.is]; decide +kernel)]
  · have hA : Ah ts s (wK [100, 115, 116] :: c :: r) := hA
    refine ⟨s.adv, ?_, rfl, hA.now.2.1, Nat.le_succ _⟩
    unfold sideT
    rw [if_neg (by rw [hA.is]; decide +kernel), if_pos (by rw [hA.is]; decide +kernel)]
theorem ends_word {ts : List Tk} {I : Option Inner} {s : Ps} {l : List UInt8} {r : List Tb} (hA : Ah ts s (wK l :: r)) (h : l ∈ ([[115, 114, 99], [100, 115, 116], [104, 111, 115, 116], [110, 101, 116], [112, 111, 114, 116], [112, 111, 114, 116, 114, 97, 110, 103, 101]] : List (List UInt8))) : partT ts I s = endsT ts (nowT ts s) 0 s := by
  obtain ⟨h1, h2⟩ := leaf_word (I := I) hA
  rw [h1]
  unfold wordT
  rw [h2]
  simp only [List.mem_cons, List.not_mem_nil, or_false] at h
  rcases h with rfl | rfl | rfl | rfl | rfl | rfl <;>
    rw [if_neg (by decide +kernel), if_neg (by decide +kernel), if_neg (by decide +kernel), if_neg (by decide +kernel), if_pos (by decide +kernel)]
theorem ends_side {ts : List Tk} {I : Option Inner} {s : Ps} {l : List UInt8} {r : List Tb} {sd : Int} (h0 : 0 ≤ sd) (h2 : sd ≤ 2) (hA : Ah ts s (sideK sd ++ wK l :: r)) (h : l ∈ ([[104, 111, 115, 116], [110, 101, 116], [112, 111, 114, 116], [112, 111, 114, 116, 114, 97, 110, 103, 101]] : List (List UInt8))) : partT ts I s = endsT ts (nowT ts s) 0 s := by
  have : sd = 0 ∨ sd = 1 ∨ sd = 2 := by omega
  rcases this with rfl | rfl | rfl
  · exact ends_word (l := l) (r := r) hA (List.mem_cons_of_mem _ (List.mem_cons_of_mem _ h))
  · exact ends_word (l := [115, 114, 99]) (r := wK l :: r) hA (by simp)
  · exact ends_word (l := [100, 115, 116]) (r := wK l :: r) hA (by simp)
theorem bytesOf_nat (l : List Nat) : bytesOf l = natA l := rfl
theorem bytesOf_four {l : List Nat} (h16 : l.length = 16) (h0 : (natA l).rest0 = true) : bytesOf (l.take 4) = natA l := by
  match l, h16 with
  | [x0, x1, x2, x3, x4, x5, x6, x7, x8, x9, x10, x11, x12, x13, x14, x15], _ =>
    simp [natA, T.A16.rest0] at h0
    simp [bytesOf, natA]
    omega
theorem addr_pr {ts : List Tk} {s : Ps} {n : Node} {r : List Tb} (hA : Ah ts s (aK n :: r)) (hb : T.Node.bytes n) (ho : n.of = 3 ∨ (n.of = 2 ∧ n.addr.rest0 = true)) : addrT ts s = .ok ((n.of, n.addr), s.adv) := by
  obtain ⟨h16, h255, hn⟩ := bytes_nat hb
  have htx : (nowT ts s).text.data.toList = addrL n := by rw [hA.text]; exact bs_list _
  have hk := hA.kind
  unfold addrT
  rcases ho with h3 | ⟨h2, h0⟩
  · obtain ⟨g1, g2, g3⟩ := pairs_bytes 8 _ h16 h255
    have hk : (nowT ts s).kind = 4 := by rw [hk]; unfold aK; simp [h3]
    rw [if_neg (by rw [hk]; decide), if_pos hk, htx]
    have : p6L (addrL n) = some (pairsA (bytesA n.addr)) := by
      unfold addrL
      rw [if_pos h3]
      exact p6_print g2 g3
    rw [this]
    show Except.ok ((3, bytesOf (bytesG (pairsA (bytesA n.addr)))), s.adv) = _
    rw [g1, bytesOf_nat, ← hn, h3]
  · have hk : (nowT ts s).kind = 3 := by rw [hk]; unfold aK; simp [h2]
    rw [if_pos hk, htx]
    have : p4L (addrL n) = some ((bytesA n.addr).take 4) := by
      unfold addrL
      rw [if_neg (by rw [h2]; decide)]
      exact p4_print (by simp [h16]) fun x hx => h255 x (List.mem_of_mem_take hx)
    rw [this]
    show Except.ok ((2, bytesOf ((bytesA n.addr).take 4)), s.adv) = _
    rw [bytesOf_four h16 (by rw [← hn]; exact h0), ← hn, h2]
theorem net_of {n : Node} (h : netB n = true) : (n.of = 3 ∨ (n.of = 2 ∧ n.addr.rest0 = true)) ∧ 0 ≤ n.side ∧ n.side ≤ 2 := by
  simp [netB, inR] at h
  exact h
theorem leaf_host {ts : List Tk} {I : Option Inner} {n : Node} (hn : NF n) (hk : n.kind = 14) : Pr ts (partT ts I) (leafK n) [n] (okR 12) := fun s b rest hA hb => by
  have hu := hn.un
  have hby := hn.bytes
  have hA : Ah ts s (sideK n.side ++ wK [104, 111, 115, 116] :: aK n :: b :: rest) := by
    have : leafK n = sideK n.side ++ [wK [104, 111, 115, 116], aK n] := by simp [leafK, hk]
    rw [this] at hA
    simpa using hA
  have hu2 : onlyB (fun n => { n with of := 0, side := 0, addr := A16.zero }) n = true ∧ netB n = true := by
    simpa [unusedB, hk] using hu
  obtain ⟨ho, s0, s2⟩ := net_of hu2.2
  have hone := of_decide_eq_true hu2.1
  rw [ends_side (I := I) s0 s2 hA (by simp)]
  obtain ⟨s', e1, e2, e3, e4⟩ := side_pr s0 s2 hA (by decide +kernel) (by decide +kernel)
  have h3 := e3.now.2.1
  have had := addr_pr h3 hby ho
  refine ⟨s'.adv.adv.lay { Node.zero with kind := 14, of := n.of, side := n.side, addr := n.addr } (nowT ts s).at0, ?_, ?_, h3.now.2.1, by show s.at_ < s'.at_ + 1 + 1; omega⟩
  · unfold endsT
    rw [e1]
    unfold endsT2
    rw [if_neg (by rw [e3.is]; decide +kernel), if_neg (by rw [e3.is]; decide +kernel), if_pos ⟨rfl, by rw [e3.is]; decide +kernel⟩, had]
    rfl
  · show s'.nodes ++ [_] = _
    rw [e2]
    congr 2
    obtain ⟨k, op, v, mm, sz, of, sd, ad, bt⟩ := n
    simp only at hk
    subst hk
    simp [Node.zero] at hone
    obtain ⟨rfl, rfl, rfl, rfl, rfl⟩ := hone
    rfl
theorem leaf_net {ts : List Tk} {I : Option Inner} {n : Node} (hn : NF n) (hk : n.kind = 15) : Pr ts (partT ts I) (leafK n) [n] (okR 12) := fun s b rest hA hb => by
  have hu := hn.un
  have hby := hn.bytes
  have hA : Ah ts s (sideK n.side ++ wK [110, 101, 116] :: aK n :: sK [47] :: nK n.bits :: b :: rest) := by
    have : leafK n = sideK n.side ++ [wK [110, 101, 116], aK n, sK [47], nK n.bits] := by simp [leafK, hk]
    rw [this] at hA
    simpa using hA
  have hu2 : onlyB (fun n => { n with of := 0, side := 0, addr := A16.zero, bits := 0 }) n = true ∧ netB n = true := by
    simpa [unusedB, hk] using hu
  obtain ⟨ho, s0, s2⟩ := net_of hu2.2
  have hone := of_decide_eq_true hu2.1
  rw [ends_side (I := I) s0 s2 hA (by simp)]
  obtain ⟨s', e1, e2, e3, e4⟩ := side_pr s0 s2 hA (by decide +kernel) (by decide +kernel)
  have h3 := e3.now.2.1
  have had := addr_pr h3 hby ho
  have h4 := h3.now.2.1
  have h5 := h4.now.2.1
  refine ⟨s'.adv.adv.adv.adv.lay { Node.zero with kind := 15, of := n.of, side := n.side, addr := n.addr, bits := n.bits } (nowT ts s).at0, ?_, ?_, h5.now.2.1, by show s.at_ < s'.at_ + 1 + 1 + 1 + 1; omega⟩
  · unfold endsT
    rw [e1]
    unfold endsT2
    rw [if_neg (by rw [e3.is]; decide +kernel), if_neg (by rw [e3.is]; decide +kernel), if_neg (by rw [e3.is]; decide +kernel), if_pos ⟨rfl, by rw [e3.is]; decide +kernel⟩, had]
    show (mustT ts xSlash s'.adv.adv).bind _ = _
    rw [must_pr h4 (by decide +kernel)]
    show (kindT ts 1 s'.adv.adv.adv).bind _ = _
    rw [kind_pr h5 (k := 1) rfl]
    show Except.ok _ = Except.ok _
    rw [h5.n]
    rfl
  · show s'.nodes ++ [_] = _
    rw [e2]
    congr 2
    obtain ⟨k, op, v, mm, sz, of, sd, ad, bt⟩ := n
    simp only at hk
    subst hk
    simp [Node.zero] at hone
    obtain ⟨rfl, rfl, rfl, rfl⟩ := hone
    rfl
/-- What stands behind a side: ports. -/
theorem ports_pr {ts : List Tk} {n : Node} {s : Ps} {t : Tk} {b : Tb} {rest : List Tb} (hk : n.kind = 16) (hp : (n.of = 0 ∨ n.of = 4 ∨ n.of = 5) ∧ 0 ≤ n.side ∧ n.side ≤ 2) (hone : { n with of := 0, side := 0, n := 0, m := 0 } = { Node.zero with kind := n.kind })
    (hA : Ah ts s (sideK n.side ++ ((if n.n = n.m then [wK [112, 111, 114, 116], nK n.n] else [wK [112, 111, 114, 116, 114, 97, 110, 103, 101], nK n.n, sK [45], nK n.m]) ++ b :: rest))) :
    ∃ s', endsT ts t n.of s = .ok s' ∧ s'.nodes = s.nodes ++ [n] ∧ Ah ts s' (b :: rest) ∧ s.at_ < s'.at_ := by
  obtain ⟨_, s0, s2⟩ := hp
  have hnode : ∀ x y : Int, x = n.n → y = n.m → ({ Node.zero with kind := 16, of := n.of, side := n.side, n := x, m := y } : Node) = n := fun x y hx hy => by
    obtain ⟨k, op, v, mm, sz, of, sd, ad, bt⟩ := n
    simp only at hk hx hy
    subst hk hx hy
    simp [Node.zero] at hone
    obtain ⟨rfl, rfl, rfl, rfl⟩ := hone
    rfl
  by_cases hm : n.n = n.m
  · rw [if_pos hm] at hA
    have hA : Ah ts s (sideK n.side ++ wK [112, 111, 114, 116] :: (nK n.n :: b :: rest)) := hA
    obtain ⟨s', e1, e2, e3, e4⟩ := side_pr s0 s2 hA (by decide +kernel) (by decide +kernel)
    have h3 := e3.now.2.1
    refine ⟨s'.adv.adv.lay n t.at0, ?_, ?_, h3.now.2.1, by show s.at_ < s'.at_ + 1 + 1; omega⟩
    · unfold endsT
      rw [e1]
      unfold endsT2
      rw [if_pos (by rw [e3.is]; decide +kernel), kind_pr h3 (k := 1) rfl]
      show Except.ok (s'.adv.adv.lay { Node.zero with kind := 16, of := n.of, side := n.side, n := (nowT ts s'.adv).n, m := (nowT ts s'.adv).n } t.at0) = _
      rw [hnode _ _ h3.n (h3.n.trans hm)]
    · show s'.nodes ++ [_] = _
      rw [e2]
  · rw [if_neg hm] at hA
    have hA : Ah ts s (sideK n.side ++ wK [112, 111, 114, 116, 114, 97, 110, 103, 101] :: (nK n.n :: sK [45] :: nK n.m :: b :: rest)) := hA
    obtain ⟨s', e1, e2, e3, e4⟩ := side_pr s0 s2 hA (by decide +kernel) (by decide +kernel)
    have h3 := e3.now.2.1
    have h4 := h3.now.2.1
    have h5 := h4.now.2.1
    refine ⟨s'.adv.adv.adv.adv.lay n t.at0, ?_, ?_, h5.now.2.1, by show s.at_ < s'.at_ + 1 + 1 + 1 + 1; omega⟩
    · unfold endsT
      rw [e1]
      unfold endsT2
      rw [if_neg (by rw [e3.is]; decide +kernel), if_pos (by rw [e3.is]; decide +kernel), kind_pr h3 (k := 1) rfl]
      show (mustT ts xDash s'.adv.adv).bind _ = _
      rw [must_pr h4 (by decide +kernel)]
      show (kindT ts 1 s'.adv.adv.adv).bind _ = _
      rw [kind_pr h5 (k := 1) rfl]
      show Except.ok (s'.adv.adv.adv.adv.lay { Node.zero with kind := 16, of := n.of, side := n.side, n := (nowT ts s'.adv).n, m := (nowT ts s'.adv.adv.adv).n } t.at0) = _
      rw [hnode _ _ h3.n h5.n]
    · show s'.nodes ++ [_] = _
      rw [e2]
theorem leaf_ports {ts : List Tk} {I : Option Inner} {n : Node} (hn : NF n) (hk : n.kind = 16) : Pr ts (partT ts I) (leafK n) [n] (okR 12) := fun s b rest hA hb => by
  have hu := hn.un
  have hu2 : onlyB (fun n => { n with of := 0, side := 0, n := 0, m := 0 }) n = true ∧ portB n = true := by
    simpa [unusedB, hk] using hu
  have hone := of_decide_eq_true hu2.1
  have hp : (n.of = 0 ∨ n.of = 4 ∨ n.of = 5) ∧ 0 ≤ n.side ∧ n.side ≤ 2 := by
    have := hu2.2
    simp [portB, inR] at this
    omega
  have hl : leafK n = (if n.of = 0 then [] else [wK (nameL n.of)]) ++ (sideK n.side ++ (if n.n = n.m then [wK [112, 111, 114, 116], nK n.n] else [wK [112, 111, 114, 116, 114, 97, 110, 103, 101], nK n.n, sK [45], nK n.m])) := by simp [leafK, hk]
  rw [hl] at hA
  by_cases ho : n.of = 0
  · rw [if_pos ho] at hA
    have hA : Ah ts s (sideK n.side ++ ((if n.n = n.m then [wK [112, 111, 114, 116], nK n.n] else [wK [112, 111, 114, 116, 114, 97, 110, 103, 101], nK n.n, sK [45], nK n.m]) ++ b :: rest)) := by simpa using hA
    have h1 : partT ts I s = endsT ts (nowT ts s) n.of s := by
      rw [ho]
      by_cases hm : n.n = n.m
      · rw [if_pos hm] at hA
        exact ends_side (l := [112, 111, 114, 116]) hp.2.1 hp.2.2 hA (by simp)
      · rw [if_neg hm] at hA
        exact ends_side (l := [112, 111, 114, 116, 114, 97, 110, 103, 101]) hp.2.1 hp.2.2 hA (by simp)
    rw [h1]
    exact ports_pr hk hp hone hA
  · rw [if_neg ho] at hA
    have hA : Ah ts s (wK (nameL n.of) :: (sideK n.side ++ ((if n.n = n.m then [wK [112, 111, 114, 116], nK n.n] else [wK [112, 111, 114, 116, 114, 97, 110, 103, 101], nK n.n, sK [45], nK n.m]) ++ b :: rest))) := by simpa using hA
    obtain ⟨h1, h2⟩ := leaf_word (I := I) hA
    have h3 := hA.now.2.1
    obtain ⟨s', g1, g2, g3, g4⟩ := ports_pr (t := nowT ts s) hk hp hone h3
    refine ⟨s', ?_, g2, g3, by have : s.adv.at_ = s.at_ + 1 := rfl; omega⟩
    rw [h1, word_name (o := n.of) (by omega) (by omega) h2]
    unfold nameT
    rw [h2, (name_facts (o := n.of) (by omega) (by omega)).2.2]
    obtain ⟨c, r, hc, c1, c2⟩ : ∃ c r, Ah ts s.adv (c :: r) ∧ isB c xLb = false ∧ (isB c xSrc || isB c xDst || isB c xPort || isB c xPortrange) = true := by
      have : n.side = 0 ∨ n.side = 1 ∨ n.side = 2 := by omega
      by_cases hm : n.n = n.m
      · rw [if_pos hm] at h3
        rcases this with e | e | e <;> rw [e] at h3 <;> exact ⟨_, _, h3, by decide +kernel, by decide +kernel⟩
      · rw [if_neg hm] at h3
        rcases this with e | e | e <;> rw [e] at h3 <;> exact ⟨_, _, h3, by decide +kernel, by decide +kernel⟩
    rw [if_neg (by omega), if_neg (by rw [hc.is, c1]; simp), if_neg (by omega), if_pos ⟨by omega, by rw [hc.is, hc.is, hc.is, hc.is]; exact c2⟩]
    exact g1
/-- Each leaf reads as itself. -/
theorem leaf_pr {ts : List Tk} {I : Option Inner} {n : Node} (hn : NF n) (ha : arityK n.kind = some 0) : Pr ts (partT ts I) (leafK n) [n] (okR 12) := by
  have : n.kind = 1 ∨ n.kind = 2 ∨ n.kind = 10 ∨ n.kind = 11 ∨ n.kind = 12 ∨ n.kind = 13 ∨ n.kind = 14 ∨ n.kind = 15 ∨ n.kind = 16 := by
    unfold arityK at ha
    split at ha
    · assumption
    · split at ha
      · cases ha
      · split at ha <;> cases ha
  rcases this with h | h | h | h | h | h | h | h | h
  · exact leaf_num hn h
  · exact leaf_len hn h
  · exact leaf_way hn h
  · exact leaf_name hn h
  · exact leaf_proto hn h
  · exact leaf_next hn h
  · exact leaf_host hn h
  · exact leaf_net hn h
  · exact leaf_ports hn h
end Go.Proofs.YtffkaphbgfdpaaaGreatDoor
end

section
/- A tree's tokens read as the tree. Plain. -/
namespace Go.Proofs.YtffkaphbgfdpaaaGreatDoor
open Go.RowKit Go.Shelf T
open L (Tk)
set_option linter.unusedVariables false
set_option linter.unusedSimpArgs false
set_option maxRecDepth 100000

/-- A tree's row. -/
def rwT (x : Tr) : Nat := (rowK x.root).toNat
theorem rwT_int (x : Tr) : ((rwT x : Nat) : Int) = rowK x.root := by
  have := rowK_range x.root
  unfold rwT
  omega
/-- What a sign between two parts is to its row. -/
structure OpAt (n : Node) (r : Nat) : Prop where
  find : ∃ pre o post, opsOf r = pre ++ o :: post ∧ (∀ p ∈ pre, isB (opK n) p.1 = false) ∧ isB (opK n) o.1 = true ∧ o.2 = n
  bar : okR (r + 1) (opK n)
theorem opAt_of (n : Node) (r k : Nat) (o : OpT) (h1 : opsOf r = (opsOf r).take k ++ o :: (opsOf r).drop (k + 1)) (h2 : ((opsOf r).take k).all (fun p => !isB (opK n) p.1) = true) (h3 : isB (opK n) o.1 = true) (h4 : o.2 = n) (h5 : (barOf (r + 1)).all (fun x => !isB (opK n) x) = true) : OpAt n r :=
  ⟨⟨_, o, _, h1, fun p hp => by have := List.all_eq_true.1 h2 p hp; simpa using this, h3, h4⟩, fun x hx => by have := List.all_eq_true.1 h5 x hx; simpa using this⟩
theorem op_at {n : Node} (hn : NF n) (h2 : arityK n.kind = some 2) : ∃ r : Nat, (r : Int) = rowK n ∧ OpAt n r ∧ (r = 4 ∨ loops r = true) ∧ 1 ≤ r ∧ r ≤ 10 := by
  have hk : n.kind = 4 ∨ n.kind = 6 ∨ n.kind = 7 ∨ n.kind = 8 := by
    unfold arityK at h2
    repeat' split at h2
    all_goals first | omega | (cases h2; done) | assumption
  have hu := hn.un
  obtain ⟨k, op, v, mm, sz, of, sd, ad, bt⟩ := n
  simp only at hk
  rcases hk with rfl | rfl | rfl | rfl
  · simp [unusedB, onlyB, Node.zero, inR] at hu
    obtain ⟨⟨rfl, rfl, rfl, rfl, rfl, rfl, rfl⟩, l1, l2⟩ := hu
    have : op = 1 ∨ op = 2 ∨ op = 3 ∨ op = 4 ∨ op = 5 ∨ op = 6 ∨ op = 7 ∨ op = 8 ∨ op = 9 ∨ op = 10 := by omega
    rcases this with rfl | rfl | rfl | rfl | rfl | rfl | rfl | rfl | rfl | rfl
    · exact ⟨9, rfl, opAt_of _ 9 0 _ rfl (by decide +kernel) (by decide +kernel) rfl (by decide +kernel), .inr rfl, by decide, by decide⟩
    · exact ⟨9, rfl, opAt_of _ 9 1 _ rfl (by decide +kernel) (by decide +kernel) rfl (by decide +kernel), .inr rfl, by decide, by decide⟩
    · exact ⟨10, rfl, opAt_of _ 10 0 _ rfl (by decide +kernel) (by decide +kernel) rfl (by decide +kernel), .inr rfl, by decide, by decide⟩
    · exact ⟨10, rfl, opAt_of _ 10 1 _ rfl (by decide +kernel) (by decide +kernel) rfl (by decide +kernel), .inr rfl, by decide, by decide⟩
    · exact ⟨10, rfl, opAt_of _ 10 2 _ rfl (by decide +kernel) (by decide +kernel) rfl (by decide +kernel), .inr rfl, by decide, by decide⟩
    · exact ⟨7, rfl, opAt_of _ 7 0 _ rfl (by decide +kernel) (by decide +kernel) rfl (by decide +kernel), .inr rfl, by decide, by decide⟩
    · exact ⟨5, rfl, opAt_of _ 5 0 _ rfl (by decide +kernel) (by decide +kernel) rfl (by decide +kernel), .inr rfl, by decide, by decide⟩
    · exact ⟨6, rfl, opAt_of _ 6 0 _ rfl (by decide +kernel) (by decide +kernel) rfl (by decide +kernel), .inr rfl, by decide, by decide⟩
    · exact ⟨8, rfl, opAt_of _ 8 0 _ rfl (by decide +kernel) (by decide +kernel) rfl (by decide +kernel), .inr rfl, by decide, by decide⟩
    · exact ⟨8, rfl, opAt_of _ 8 1 _ rfl (by decide +kernel) (by decide +kernel) rfl (by decide +kernel), .inr rfl, by decide, by decide⟩
  · simp [unusedB, onlyB, Node.zero, inR] at hu
    obtain ⟨⟨rfl, rfl, rfl, rfl, rfl, rfl, rfl⟩, l1, l2⟩ := hu
    have : op = 1 ∨ op = 2 ∨ op = 3 ∨ op = 4 ∨ op = 5 ∨ op = 6 := by omega
    rcases this with rfl | rfl | rfl | rfl | rfl | rfl
    · exact ⟨4, rfl, opAt_of _ 4 0 _ rfl (by decide +kernel) (by decide +kernel) rfl (by decide +kernel), .inl rfl, by decide, by decide⟩
    · exact ⟨4, rfl, opAt_of _ 4 2 _ rfl (by decide +kernel) (by decide +kernel) rfl (by decide +kernel), .inl rfl, by decide, by decide⟩
    · exact ⟨4, rfl, opAt_of _ 4 3 _ rfl (by decide +kernel) (by decide +kernel) rfl (by decide +kernel), .inl rfl, by decide, by decide⟩
    · exact ⟨4, rfl, opAt_of _ 4 4 _ rfl (by decide +kernel) (by decide +kernel) rfl (by decide +kernel), .inl rfl, by decide, by decide⟩
    · exact ⟨4, rfl, opAt_of _ 4 5 _ rfl (by decide +kernel) (by decide +kernel) rfl (by decide +kernel), .inl rfl, by decide, by decide⟩
    · exact ⟨4, rfl, opAt_of _ 4 6 _ rfl (by decide +kernel) (by decide +kernel) rfl (by decide +kernel), .inl rfl, by decide, by decide⟩
  · simp [unusedB, onlyB, Node.zero, inR] at hu
    obtain ⟨rfl, rfl, rfl, rfl, rfl, rfl, rfl, rfl⟩ := hu
    exact ⟨2, rfl, opAt_of _ 2 0 _ rfl (by decide +kernel) (by decide +kernel) rfl (by decide +kernel), .inr rfl, by decide, by decide⟩
  · simp [unusedB, onlyB, Node.zero, inR] at hu
    obtain ⟨rfl, rfl, rfl, rfl, rfl, rfl, rfl, rfl⟩ := hu
    exact ⟨1, rfl, opAt_of _ 1 0 _ rfl (by decide +kernel) (by decide +kernel) rfl (by decide +kernel), .inr rfl, by decide, by decide⟩
def NotNot (l : List Tb) : Prop := ∃ c r, l = c :: r ∧ isB c xNot = false ∧ isB c xNotS = false
def NotDash (l : List Tb) : Prop := ∃ c r, l = c :: r ∧ isB c xDash = false
theorem not_app {l m : List Tb} (h : NotNot l) : NotNot (l ++ m) := by
  obtain ⟨c, r, rfl, h⟩ := h
  exact ⟨c, r ++ m, rfl, h⟩
theorem dash_app {l m : List Tb} (h : NotDash l) : NotDash (l ++ m) := by
  obtain ⟨c, r, rfl, h⟩ := h
  exact ⟨c, r ++ m, rfl, h⟩
theorem name_not {o : Int} (h1 : 1 ≤ o) (h2 : o ≤ 13) : isB (wK (nameL o)) xNot = false ∧ isB (wK (nameL o)) xNotS = false ∧ isB (wK (nameL o)) xDash = false := by
  have : o = 1 ∨ o = 2 ∨ o = 3 ∨ o = 4 ∨ o = 5 ∨ o = 6 ∨ o = 7 ∨ o = 8 ∨ o = 9 ∨ o = 10 ∨ o = 11 ∨ o = 12 ∨ o = 13 := by omega
  rcases this with rfl | rfl | rfl | rfl | rfl | rfl | rfl | rfl | rfl | rfl | rfl | rfl | rfl <;> decide +kernel
theorem nk_not (v : Int) : isB (nK v) xNot = false ∧ isB (nK v) xNotS = false ∧ isB (nK v) xDash = false := ⟨rfl, rfl, rfl⟩
theorem side_not {sd : Int} (h0 : 0 ≤ sd) (h2 : sd ≤ 2) {l : List Tb} (h : NotNot l ∧ NotDash l) : NotNot (sideK sd ++ l) ∧ NotDash (sideK sd ++ l) := by
  have : sd = 0 ∨ sd = 1 ∨ sd = 2 := by omega
  rcases this with rfl | rfl | rfl
  · exact h
  · exact ⟨⟨_, _, rfl, by decide +kernel, by decide +kernel⟩, ⟨_, _, rfl, by decide +kernel⟩⟩
  · exact ⟨⟨_, _, rfl, by decide +kernel, by decide +kernel⟩, ⟨_, _, rfl, by decide +kernel⟩⟩
theorem both_of {c : Tb} {r : List Tb} (h : isB c xNot = false ∧ isB c xNotS = false ∧ isB c xDash = false) : NotNot (c :: r) ∧ NotDash (c :: r) := ⟨⟨c, r, rfl, h.1, h.2.1⟩, ⟨c, r, rfl, h.2.2⟩⟩
theorem leaf_not {n : Node} (hn : NF n) (ha : arityK n.kind = some 0) : NotNot (leafK n) ∧ NotDash (leafK n) := by
  have hu := hn.un
  have : n.kind = 1 ∨ n.kind = 2 ∨ n.kind = 10 ∨ n.kind = 11 ∨ n.kind = 12 ∨ n.kind = 13 ∨ n.kind = 14 ∨ n.kind = 15 ∨ n.kind = 16 := by
    unfold arityK at ha
    split at ha
    · assumption
    · split at ha
      · cases ha
      · split at ha <;> cases ha
  rcases this with h | h | h | h | h | h | h | h | h <;> simp [unusedB, h] at hu <;> simp only [leafK, h]
  · exact both_of (nk_not _)
  · exact both_of (by decide +kernel)
  · have := hu.2
    simp [inR] at this
    have : n.side = 1 ∨ n.side = 2 := by omega
    rcases this with e | e <;> rw [e] <;> exact both_of (by decide +kernel)
  · have := hu.2
    simp [inR] at this
    exact both_of (name_not (by omega) (by omega))
  · exact both_of (by decide +kernel)
  · have := hu.2
    simp [inR] at this
    exact both_of (name_not (by omega) (by omega))
  · obtain ⟨_, s0, s2⟩ := net_of hu.2
    exact side_not s0 s2 (both_of (by decide +kernel))
  · obtain ⟨_, s0, s2⟩ := net_of hu.2
    exact side_not s0 s2 (both_of (by decide +kernel))
  · have hp := hu.2
    simp [portB, inR] at hp
    have hs : NotNot (sideK n.side ++ (if n.n = n.m then [wK [112, 111, 114, 116], nK n.n] else [wK [112, 111, 114, 116, 114, 97, 110, 103, 101], nK n.n, sK [45], nK n.m])) ∧ NotDash (sideK n.side ++ (if n.n = n.m then [wK [112, 111, 114, 116], nK n.n] else [wK [112, 111, 114, 116, 114, 97, 110, 103, 101], nK n.n, sK [45], nK n.m])) := by
      refine side_not hp.2.1 hp.2.2 ?_
      split
      · exact both_of (by decide +kernel)
      · exact both_of (by decide +kernel)
    by_cases ho : n.of = 0
    · simp only [ho, if_true]
      exact hs
    · simp only [ho, if_false]
      exact both_of (name_not (by omega) (by omega))
/-- Each node may be. -/
def AllF (x : Tr) : Prop := ∀ n ∈ x.flat, NF n
theorem load_of {n : Node} (hn : NF n) (h : n.kind = 3) : 1 ≤ n.of ∧ n.of ≤ 12 ∧ n = { Node.zero with kind := 3, of := n.of, size := n.size } := by
  have hu := hn.un
  obtain ⟨k, op, v, mm, sz, of, sd, ad, bt⟩ := n
  simp only at h
  subst h
  simp [unusedB, onlyB, Node.zero, inR] at hu
  obtain ⟨⟨rfl, rfl, rfl, rfl, rfl, rfl⟩, l1, l2⟩ := hu
  exact ⟨l1, l2, rfl⟩
/-- A tree that is no 'not' does not begin with one; one that is a part by itself does not begin with '-'. -/
theorem first_tok (full : Bool) : ∀ x : Tr, x.Fit → AllF x → (4 ≤ rowK x.root → NotNot (toksT full x)) ∧ (rowK x.root = 12 → NotDash (toksT full x))
  | .leaf n, hF, hA => ⟨fun _ => (leaf_not (hA n (by simp [Tr.flat])) hF).1, fun _ => (leaf_not (hA n (by simp [Tr.flat])) hF).2⟩
  | .un n x, hF, hA => by
    have hn : NF n := hA n (by simp [Tr.flat])
    by_cases h3 : n.kind = 3
    · obtain ⟨l1, l2, -⟩ := load_of hn h3
      have := both_of (r := sK [91] :: (toksT full x ++ endK n)) (name_not l1 (show n.of ≤ 13 by omega))
      simp only [toksT, h3, if_true]
      exact ⟨fun _ => this.1, fun _ => this.2⟩
    · have h59 : n.kind = 5 ∨ n.kind = 9 := by
        have := hF.1
        unfold arityK at this
        repeat' split at this
        all_goals first | omega | (cases this; done)
      rcases h59 with h | h
      · simp only [toksT, h, Tr.root]
        exact ⟨fun _ => ⟨_, _, rfl, by decide +kernel, by decide +kernel⟩, fun hr => by simp [rowK, h] at hr⟩
      · exact ⟨fun hr => by simp [rowK, h, Tr.root] at hr, fun hr => by simp [rowK, h, Tr.root] at hr⟩
  | .bin n x y, hF, hA => by
    have ih := first_tok full x hF.2.1 fun m hm => hA m (by simp [Tr.flat, hm])
    refine ⟨fun hr => ?_, fun hr => ?_⟩
    · simp only [toksT]
      refine not_app ?_
      unfold putK
      by_cases hb : bareB full n false (rowK x.root) = true
      · rw [if_pos hb]
        refine ih.1 ?_
        simp only [Tr.root] at hr
        unfold bareB at hb
        split at hb
        · have := of_decide_eq_true hb; omega
        · split at hb
          · have := of_decide_eq_true hb; omega
          · split at hb <;> (have := of_decide_eq_true hb; omega)
      · rw [if_neg hb]
        exact ⟨_, _, rfl, by decide +kernel, by decide +kernel⟩
    · exfalso
      obtain ⟨r, e, -, -, -, h10⟩ := op_at (hA n (by simp [Tr.flat])) hF.1
      simp only [Tr.root] at hr
      omega
end Go.Proofs.YtffkaphbgfdpaaaGreatDoor
end

section
/- A tree's tokens read as the tree: the induction. Plain. -/
namespace Go.Proofs.YtffkaphbgfdpaaaGreatDoor
open Go.RowKit Go.Shelf T
open L (Tk)
set_option linter.unusedVariables false
set_option linter.unusedSimpArgs false
set_option maxRecDepth 100000

/-- What stands within, where d may be opened. -/
def innT (ts : List Tk) : Nat → Option Inner
  | 0 => none
  | d + 1 => some (levT ts d)
theorem lev_inn (ts : List Tk) (d : Nat) : levT ts d = innerT ts (innT ts d) := by cases d <;> rfl
theorem pr_lift {ts : List Tk} {I : Option Inner} {q : Nat} {l : List Tb} {ns : List Node} (h1 : 1 ≤ q) (h2 : q ≤ 11) (h3 : q = 3 → NotNot l) (h11 : q = 11 → NotDash l) (h : Pr ts (rowF ts I (q + 1)) l ns (okR (q + 1))) : Pr ts (rowF ts I q) l ns (okR q) := by
  have hc : q = 3 ∨ q = 4 ∨ q = 11 ∨ (loops q = true ∧ q ≤ 10) := by
    simp [loops]; omega
  rcases hc with rfl | rfl | rfl | ⟨hl, h10⟩
  · intro s b rest hA hb
    obtain ⟨c, r, rfl, c1, c2⟩ := h3 rfl
    obtain ⟨s', g1, g⟩ := h s b rest hA (hb.mono (by omega))
    refine ⟨s', ?_, g⟩
    show notT ts I s = _
    unfold notT
    have hA : Ah ts s (c :: (r ++ b :: rest)) := hA
    rw [if_neg (by rw [hA.is, hA.is, c1, c2]; decide)]
    exact g1
  · intro s b rest hA hb
    obtain ⟨s', g1, g2, g3, g4⟩ := h s b rest hA (hb.mono (by omega))
    refine ⟨s', ?_, g2, g3, g4⟩
    show relT ts I s = _
    unfold relT
    have g1 : bitT ts I s = .ok s' := g1
    rw [g1]
    show (oneT ts (bitT ts I) relOps s').bind _ = _
    rw [one_none g3 relOps (hb.ops (k := 4) (Nat.le_refl _) (by decide))]
    rfl
  · intro s b rest hA hb
    obtain ⟨c, r, rfl, c1⟩ := h11 rfl
    obtain ⟨s', g1, g⟩ := h s b rest hA (hb.mono (by omega))
    refine ⟨s', ?_, g⟩
    show minusT ts I s = _
    unfold minusT
    have hA : Ah ts s (c :: (r ++ b :: rest)) := hA
    rw [if_neg (by rw [hA.is, c1]; decide)]
    exact g1
  · exact pr_of_ab hl h10 (ab_of_pr h)
theorem pr_down {ts : List Tk} {I : Option Inner} {l : List Tb} {ns : List Node} : ∀ (k q : Nat), 1 ≤ q → q + k ≤ 12 → (q ≤ 3 → 3 < q + k → NotNot l) → (q ≤ 11 → 11 < q + k → NotDash l) → Pr ts (rowF ts I (q + k)) l ns (okR (q + k)) → Pr ts (rowF ts I q) l ns (okR q)
  | 0, q, _, _, _, _, h => h
  | k + 1, q, h1, h2, h3, h11, h => by
    refine pr_lift h1 (by omega) (fun e => h3 (by omega) (by omega)) (fun e => h11 (by omega) (by omega)) ?_
    refine pr_down k (q + 1) (by omega) (by omega) (fun a b => h3 (by omega) (by omega)) (fun a b => h11 (by omega) (by omega)) ?_
    rw [show q + 1 + k = q + (k + 1) from by omega]
    exact h
theorem ok_of_all {q : Nat} {b : Tb} (h : (barOf q).all (fun x => !isB b x) = true) : okR q b := fun x hx => by have := List.all_eq_true.1 h x hx; simpa using this
/-- In brackets. -/
theorem pr_paren {ts : List Tk} {d : Nat} {l : List Tb} {ns : List Node} (h : Pr ts (rowF ts (innT ts d) 1) l ns (okR 1)) : Pr ts (partT ts (innT ts (d + 1))) (sK [40] :: (l ++ [sK [41]])) ns (okR 12) := fun s b rest hA hb => by
  have hA : Ah ts s (sK [40] :: (l ++ sK [41] :: (b :: rest))) := by simpa using hA
  obtain ⟨s', g1, g2, g3, g4⟩ := h s.adv (sK [41]) (b :: rest) hA.now.2.1 (ok_of_all (by decide +kernel))
  refine ⟨s'.adv, ?_, g2, g3.now.2.1, by have : s.adv.at_ = s.at_ + 1 := rfl; show s.at_ < s'.at_ + 1; omega⟩
  unfold partT
  rw [if_neg (by rw [hA.kind]; decide), if_neg (by rw [hA.kind]; decide), if_pos (by rw [hA.is]; decide +kernel)]
  show ((levT ts d).or_ s.adv).bind (fun s2 => mustT ts xRp s2) = _
  rw [lev_inn]
  have g1 : orT ts (innT ts d) s.adv = .ok s' := g1
  show (orT ts (innT ts d) s.adv).bind _ = _
  rw [g1]
  exact must_pr g3 (by decide +kernel)
/-- What is known of a tree: at each row up to its own it reads; at its own, if that loops, it is absorbed. -/
def Reads (ts : List Tk) (full : Bool) (x : Tr) : Prop := ∀ d, (saidT full x).2 ≤ d → (∀ q, 1 ≤ q → q ≤ rwT x → Pr ts (rowF ts (innT ts d) q) (toksT full x) x.flat (okR q)) ∧ (loops (rwT x) = true → Ab ts (innT ts d) (rwT x) (toksT full x) x.flat)
theorem rwT_le (x : Tr) : 1 ≤ rwT x ∧ rwT x ≤ 12 := by
  have := rowK_range x.root
  unfold rwT
  omega
/-- A part, in brackets where it must. -/
theorem pr_item {ts : List Tk} {full : Bool} {x : Tr} {b : Bool} {q d : Nat} (hx : Reads ts full x) (h1 : 1 ≤ q) (h12 : q ≤ 12) (hd : (putS b (saidT full x)).2 ≤ d) (hb : b = true → q ≤ rwT x) : Pr ts (rowF ts (innT ts d) q) (putK b (toksT full x)) x.flat (okR q) := by
  cases b with
  | true => exact (hx d hd).1 q h1 (hb rfl)
  | false =>
    have hd2 : (saidT full x).2 + 1 ≤ d := hd
    obtain ⟨e, rfl⟩ : ∃ e, d = e + 1 := ⟨d - 1, by omega⟩
    have h := pr_paren ((hx e (by omega)).1 1 (Nat.le_refl _) (rwT_le x).1)
    have hq : q + (12 - q) = 12 := by omega
    refine pr_down (12 - q) q h1 (by omega) (fun _ _ => ⟨_, _, rfl, by decide +kernel, by decide +kernel⟩) (fun _ _ => ⟨_, _, rfl, by decide +kernel⟩) ?_
    rw [hq]
    exact h
/-- From its own row down. -/
theorem pr_rows {ts : List Tk} {full : Bool} {x : Tr} (hF : x.Fit) (hA : AllF x) {d : Nat} (h : Pr ts (rowF ts (innT ts d) (rwT x)) (toksT full x) x.flat (okR (rwT x))) : ∀ q, 1 ≤ q → q ≤ rwT x → Pr ts (rowF ts (innT ts d) q) (toksT full x) x.flat (okR q) := fun q h1 hq => by
  obtain ⟨f1, f2⟩ := first_tok full x hF hA
  have hi := rwT_int x
  have h12 := (rwT_le x).2
  refine pr_down (rwT x - q) q h1 (by omega) (fun a b => f1 (by omega)) (fun a b => f2 (by omega)) ?_
  rw [show q + (rwT x - q) = rwT x from by omega]
  exact h
theorem bare_left {full : Bool} {n : Node} {q : Int} (h : bareB full n false q = true) (h12 : rowK n ≤ 11) : rowK n ≤ q ∧ (rowK n = 4 → 5 ≤ q) := by
  unfold bareB at h
  split at h
  · have := of_decide_eq_true h; omega
  · split at h
    · have := of_decide_eq_true h; omega
    · split at h <;> (have := of_decide_eq_true h; omega)
theorem bare_right {full : Bool} {n : Node} {q : Int} (h : bareB full n true q = true) (h12 : rowK n ≤ 11) : rowK n ≤ q ∧ (rowK n ≠ 3 → rowK n ≠ 11 → rowK n < q) := by
  unfold bareB at h
  split at h
  · have := of_decide_eq_true h; omega
  · split at h
    · have := of_decide_eq_true h; omega
    · split at h <;> (have := of_decide_eq_true h; simp_all <;> omega)
theorem reads_tree (ts : List Tk) (full : Bool) : ∀ x : Tr, x.Fit → AllF x → Reads ts full x
  | .leaf n, hF, hA => fun d hd => by
    have hn : NF n := hA n (by simp [Tr.flat])
    have hr : rwT (.leaf n) = 12 := by
      have : n.kind = 1 ∨ n.kind = 2 ∨ n.kind = 10 ∨ n.kind = 11 ∨ n.kind = 12 ∨ n.kind = 13 ∨ n.kind = 14 ∨ n.kind = 15 ∨ n.kind = 16 := by
        have ha : arityK n.kind = some 0 := hF
        unfold arityK at ha
        split at ha
        · assumption
        · split at ha
          · cases ha
          · split at ha <;> cases ha
      rcases this with h | h | h | h | h | h | h | h | h <;> simp [rwT, rowK, Tr.root, h]
    refine ⟨pr_rows hF hA ?_, fun hl => ?_⟩
    · rw [hr]
      exact leaf_pr hn hF
    · rw [hr] at hl; cases hl
  | .un n x, hF, hA => fun d hd => by
    have hn : NF n := hA n (by simp [Tr.flat])
    have ih := reads_tree ts full x hF.2 fun m hm => hA m (by simp [Tr.flat, hm])
    have h359 : n.kind = 3 ∨ n.kind = 5 ∨ n.kind = 9 := by
      have := hF.1
      unfold arityK at this
      repeat' split at this
      all_goals first | omega | (cases this; done) | assumption
    rcases h359 with h | h | h
    · -- a load
      obtain ⟨l1, l2, hnode⟩ := load_of hn h
      have hr : rwT (.un n x) = 12 := by simp [rwT, rowK, Tr.root, h]
      have hdx : (saidT full x).2 + 1 ≤ d := by simpa [saidT, h] using hd
      obtain ⟨e, rfl⟩ : ∃ e, d = e + 1 := ⟨d - 1, by omega⟩
      refine ⟨pr_rows hF hA ?_, fun hl => by rw [hr] at hl; cases hl⟩
      rw [hr]
      intro s b rest hAh hb
      have hAh : Ah ts s (wK (nameL n.of) :: sK [91] :: (toksT full x ++ (endK n ++ b :: rest))) := by
        simpa [toksT, h] using hAh
      obtain ⟨w1, w2⟩ := leaf_word (I := innT ts (e + 1)) hAh
      have a1 := hAh.now.2.1
      have a2 := a1.now.2.1
      -- the index, and what stands behind it
      obtain ⟨c, r, hc, hck⟩ : ∃ c r, endK n ++ b :: rest = c :: r ∧ okR 1 c := by
        unfold endK
        split
        · exact ⟨_, _, rfl, ok_of_all (by decide +kernel)⟩
        · exact ⟨_, _, rfl, ok_of_all (by decide +kernel)⟩
      have a2' := a2
      rw [hc] at a2'
      obtain ⟨s', g1, g2, g3, g4⟩ := (ih e (by omega)).1 1 (Nat.le_refl _) (rwT_le x).1 s.adv.adv c r a2' hck
      rw [← hc] at g3
      have g1 : orT ts (innT ts e) s.adv.adv = .ok s' := g1
      have hld : ∃ s4, loadT ts (innT ts (e + 1)) (nowT ts s) n.of s.adv = .ok (s4.lay { Node.zero with kind := 3, of := n.of, size := n.size } (nowT ts s).at0) ∧ s4.nodes = s'.nodes ∧ Ah ts s4 (b :: rest) ∧ s'.at_ ≤ s4.at_ := by
        have hstart : loadT ts (innT ts (e + 1)) (nowT ts s) n.of s.adv = (orT ts (innT ts e) s.adv.adv).bind (fun s2 => (if isT ts s2 xColon then (kindT ts 1 s2.adv).bind fun r => .ok (r.1.n, r.2) else .ok (1, s2)).bind fun r => (mustT ts xRb r.2).bind fun s4 => .ok (s4.lay { Node.zero with kind := 3, of := n.of, size := r.1 } (nowT ts s).at0)) := by
          unfold loadT
          show ((levT ts e).or_ s.adv.adv).bind _ = _
          rw [lev_inn]
          rfl
        rw [hstart, g1]
        show ∃ s4, ((if isT ts s' xColon then (kindT ts 1 s'.adv).bind fun r => .ok (r.1.n, r.2) else .ok (1, s')) : ER (Int × Ps)).bind _ = _ ∧ _
        by_cases hs : n.size = 1
        · have g3 : Ah ts s' (sK [93] :: b :: rest) := by simpa [endK, hs] using g3
          rw [if_neg (by rw [g3.is]; decide +kernel)]
          refine ⟨s'.adv, ?_, rfl, g3.now.2.1, Nat.le_succ _⟩
          show (mustT ts xRb s').bind _ = _
          rw [must_pr g3 (by decide +kernel), hs]
          rfl
        · have g3 : Ah ts s' (sK [58] :: nK n.size :: sK [93] :: b :: rest) := by simpa [endK, hs] using g3
          have g5 := g3.now.2.1
          have g6 := g5.now.2.1
          rw [if_pos (by rw [g3.is]; decide +kernel), kind_pr g5 (k := 1) rfl]
          refine ⟨s'.adv.adv.adv, ?_, rfl, g6.now.2.1, by show s'.at_ ≤ s'.at_ + 1 + 1 + 1; omega⟩
          show (mustT ts xRb s'.adv.adv).bind _ = _
          rw [must_pr g6 (by decide +kernel), g5.n]
          rfl
      obtain ⟨s4, k1, k2, k3, k4⟩ := hld
      refine ⟨s4.lay { Node.zero with kind := 3, of := n.of, size := n.size } (nowT ts s).at0, ?_, ?_, k3, ?_⟩
      · show partT ts (innT ts (e + 1)) s = _
        rw [w1, word_name (o := n.of) l1 (by omega) w2]
        unfold nameT
        rw [w2, (name_facts (o := n.of) l1 (by omega)).2.2, if_neg (by omega), if_pos ⟨by omega, by rw [a1.is]; decide +kernel⟩]
        exact k1
      · show s4.nodes ++ [_] = _
        rw [k2, g2, ← hnode]
        show (s.nodes ++ x.flat) ++ [n] = s.nodes ++ (x.flat ++ [n])
        rw [List.append_assoc]
      · show s.at_ < s4.at_
        have : s.adv.adv.at_ = s.at_ + 1 + 1 := rfl
        omega
    · -- minus
      have hrk : rowK n = 11 := by simp [rowK, h]
      have hr : rwT (.un n x) = 11 := by simp [rwT, rowK, Tr.root, h]
      have hdx : (putS (bareB full n true (rowK x.root)) (saidT full x)).2 + 1 ≤ d := by simpa [saidT, h] using hd
      obtain ⟨e, rfl⟩ : ∃ e, d = e + 1 := ⟨d - 1, by omega⟩
      have hi := rwT_int x
      have hit := pr_item (b := bareB full n true (rowK x.root)) (q := 11) ih (by omega) (by omega) (show _ ≤ e from by omega) (fun hb => by have := (bare_right hb (by omega)).1; omega)
      refine ⟨pr_rows hF hA ?_, fun hl => by rw [hr] at hl; cases hl⟩
      rw [hr]
      intro s b rest hAh hb
      have hAh : Ah ts s (sK [45] :: (putK (bareB full n true (rowK x.root)) (toksT full x) ++ b :: rest)) := by simpa [toksT, h] using hAh
      obtain ⟨s', g1, g2, g3, g4⟩ := hit s.adv b rest hAh.now.2.1 hb
      refine ⟨s'.lay { Node.zero with kind := 5 } (nowT ts s).at0, ?_, ?_, g3, by show s.at_ < s'.at_; have : s.adv.at_ = s.at_ + 1 := rfl; omega⟩
      · show minusT ts (innT ts (e + 1)) s = _
        unfold minusT
        rw [if_pos (by rw [hAh.is]; decide +kernel)]
        show ((levT ts e).minus_ s.adv).bind _ = _
        rw [lev_inn]
        have g1 : minusT ts (innT ts e) s.adv = .ok s' := g1
        show (minusT ts (innT ts e) s.adv).bind _ = _
        rw [g1]
        rfl
      · have hu := hn.un
        have hnode : n = { Node.zero with kind := 5 } := by
          obtain ⟨k, op, v, mm, sz, of, sd, ad, bt⟩ := n
          simp only at h
          subst h
          simp [unusedB, onlyB, Node.zero] at hu
          obtain ⟨rfl, rfl, rfl, rfl, rfl, rfl, rfl, rfl⟩ := hu
          rfl
        show s'.nodes ++ [_] = _
        rw [g2, ← hnode]
        show (s.nodes ++ x.flat) ++ [n] = s.nodes ++ (x.flat ++ [n])
        rw [List.append_assoc]
    · -- not
      have hrk : rowK n = 3 := by simp [rowK, h]
      have hr : rwT (.un n x) = 3 := by simp [rwT, rowK, Tr.root, h]
      have hdx : (putS (bareB full n true (rowK x.root)) (saidT full x)).2 + 1 ≤ d := by simpa [saidT, h] using hd
      obtain ⟨e, rfl⟩ : ∃ e, d = e + 1 := ⟨d - 1, by omega⟩
      have hi := rwT_int x
      have hit := pr_item (b := bareB full n true (rowK x.root)) (q := 3) ih (by omega) (by omega) (show _ ≤ e from by omega) (fun hb => by have := (bare_right hb (by omega)).1; omega)
      refine ⟨pr_rows hF hA ?_, fun hl => by rw [hr] at hl; cases hl⟩
      rw [hr]
      intro s b rest hAh hb
      have hAh : Ah ts s (wK [110, 111, 116] :: (putK (bareB full n true (rowK x.root)) (toksT full x) ++ b :: rest)) := by simpa [toksT, h] using hAh
      obtain ⟨s', g1, g2, g3, g4⟩ := hit s.adv b rest hAh.now.2.1 hb
      refine ⟨s'.lay { Node.zero with kind := 9 } (nowT ts s).at0, ?_, ?_, g3, by show s.at_ < s'.at_; have : s.adv.at_ = s.at_ + 1 := rfl; omega⟩
      · show notT ts (innT ts (e + 1)) s = _
        unfold notT
        rw [if_pos (by rw [hAh.is, hAh.is]; decide +kernel)]
        show ((levT ts e).not_ s.adv).bind _ = _
        rw [lev_inn]
        have g1 : notT ts (innT ts e) s.adv = .ok s' := g1
        show (notT ts (innT ts e) s.adv).bind _ = _
        rw [g1]
        rfl
      · have hu := hn.un
        have hnode : n = { Node.zero with kind := 9 } := by
          obtain ⟨k, op, v, mm, sz, of, sd, ad, bt⟩ := n
          simp only at h
          subst h
          simp [unusedB, onlyB, Node.zero] at hu
          obtain ⟨rfl, rfl, rfl, rfl, rfl, rfl, rfl, rfl⟩ := hu
          rfl
        show s'.nodes ++ [_] = _
        rw [g2, ← hnode]
        show (s.nodes ++ x.flat) ++ [n] = s.nodes ++ (x.flat ++ [n])
        rw [List.append_assoc]
  | .bin n x y, hF, hA => fun d hd => by
    have hn : NF n := hA n (by simp [Tr.flat])
    have ihx := reads_tree ts full x hF.2.1 fun m hm => hA m (by simp [Tr.flat, hm])
    have ihy := reads_tree ts full y hF.2.2 fun m hm => hA m (by simp [Tr.flat, hm])
    obtain ⟨r, hr, hop, hloop, hr1, hr10⟩ := op_at hn hF.1
    obtain ⟨⟨pre, o, post, f1, f2, f3, f4⟩, hbar⟩ := hop
    have hrt : rwT (.bin n x y) = r := by unfold rwT; simp only [Tr.root]; omega
    have hix := rwT_int x
    have hiy := rwT_int y
    have hdx : (putS (bareB full n false (rowK x.root)) (saidT full x)).2 ≤ d := by simp [saidT] at hd; omega
    have hdy : (putS (bareB full n true (rowK y.root)) (saidT full y)).2 ≤ d := by simp [saidT] at hd; omega
    have hno3 : rowK n ≠ 3 := by
      rcases hloop with h | h
      · omega
      · simp [loops] at h; omega
    have hy := pr_item (q := r + 1) ihy (by omega) (by omega) hdy (fun hb => by have := (bare_right hb (by omega)).2 hno3 (by omega); omega)
    have htk : toksT full (.bin n x y) = putK (bareB full n false (rowK x.root)) (toksT full x) ++ opK n :: putK (bareB full n true (rowK y.root)) (toksT full y) := rfl
    have hfl : (Tr.bin n x y).flat = x.flat ++ (y.flat ++ [n]) := rfl
    rcases hloop with rfl | hl
    · -- a comparison
      have hx := pr_item (q := 5) ihx (by omega) (by omega) hdx (fun hb => by have := (bare_left hb (by omega)).2 (by omega); omega)
      refine ⟨pr_rows hF hA ?_, fun hl => by rw [hrt] at hl; cases hl⟩
      rw [hrt]
      intro s b rest hAh hb
      rw [htk] at hAh
      have hAh : Ah ts s (putK (bareB full n false (rowK x.root)) (toksT full x) ++ opK n :: (putK (bareB full n true (rowK y.root)) (toksT full y) ++ b :: rest)) := by simpa using hAh
      obtain ⟨s1, g1, g2, g3, g4⟩ := hx s (opK n) _ hAh hbar
      obtain ⟨s2, k1, k2, k3, k4⟩ := hy s1.adv b rest g3.now.2.1 (hb.mono (by omega))
      refine ⟨s2.lay n (nowT ts s1).at0, ?_, ?_, k3, by show s.at_ < s2.at_; have : s1.adv.at_ = s1.at_ + 1 := rfl; omega⟩
      · show relT ts (innT ts d) s = _
        unfold relT
        have g1 : bitT ts (innT ts d) s = .ok s1 := g1
        have k1 : bitT ts (innT ts d) s1.adv = .ok s2 := k1
        rw [g1]
        show (oneT ts (bitT ts (innT ts d)) relOps s1).bind _ = _
        have f1 : relOps = pre ++ o :: post := f1
        rw [f1, one_some g3 f3 pre f2, k1, f4]
        rfl
      · show s2.nodes ++ [n] = _
        rw [k2]
        show (s1.nodes ++ y.flat) ++ [n] = _
        rw [g2, hfl]
        simp
    · -- a row that reads from the left
      have hab : Ab ts (innT ts d) r (putK (bareB full n false (rowK x.root)) (toksT full x)) x.flat := by
        by_cases hb : bareB full n false (rowK x.root) = true ∧ rwT x = r
        · rw [hb.1]
          have := (ihx d (by rw [hb.1] at hdx; exact hdx)).2 (by rw [hb.2]; exact hl)
          rw [hb.2] at this
          exact this
        · refine ab_of_pr (pr_item ihx (by omega) (by omega) hdx fun h => ?_)
          have h1 := (bare_left h (by omega)).1
          have h2 : rwT x ≠ r := fun e => hb ⟨h, e⟩
          omega
      have hA2 := ab_step (n := n) f1 f2 f3 f4 hbar hab hy
      rw [← htk, ← hfl] at hA2
      refine ⟨pr_rows hF hA ?_, fun _ => by rw [hrt]; exact hA2⟩
      rw [hrt]
      exact pr_of_ab hl hr10 hA2
/-- Parse of a tree's tokens gives the tree's nodes. -/
theorem parse_tree {ts : List Tk} {full : Bool} {x : Tr} (hF : x.Fit) (hA : AllF x) (hd : (saidT full x).2 ≤ 200) {e : Tb} (he : e = (0, bs [], 0)) (hts : ts.map tbOf = toksT full x ++ [e]) : ∃ (a : Nat) (p : List Int), parseT ts = .ok ⟨a, x.flat, p⟩ := by
  subst he
  obtain ⟨s', g1, g2, g3, g4⟩ := ((reads_tree ts full x hF hA) 200 hd).1 1 (Nat.le_refl _) (rwT_le x).1 ⟨0, [], []⟩ (0, bs [], 0) [] (by unfold Ah; exact hts) (ok_of_all (by decide +kernel))
  refine ⟨s'.at_, s'.places, ?_⟩
  unfold parseT
  rw [lev_inn]
  have g1 : orT ts (innT ts 200) ⟨0, [], []⟩ = .ok s' := g1
  show (orT ts (innT ts 200) ⟨0, [], []⟩).bind _ = _
  rw [g1]
  show (if (nowT ts s').kind = 0 then Except.ok s' else _) = _
  rw [if_pos g3.kind]
  obtain ⟨a, b, c⟩ := s'
  simp only at g2 ⊢
  rw [g2]
  rfl
end Go.Proofs.YtffkaphbgfdpaaaGreatDoor
end

section
/- A token's text, whatever may stand behind it, is that token. Plain. -/
namespace Go.Proofs.YtffkaphbgfdpaaaGreatDoor
open Go.RowKit Go.Shelf T
open L (Tk)
set_option linter.unusedVariables false
set_option linter.unusedSimpArgs false
set_option maxRecDepth 100000

/-- This text is these tokens, where what stands behind is such. -/
def LexTo (l : List UInt8) (k : List Tb) (ok : List UInt8 → Prop) : Prop := ∀ (m : List UInt8) (at0 : Nat), ok m → ∃ us : List Tk, us.map tbOf = k ∧ L.lexL (l ++ m) at0 = L.preL us (L.lexL m (at0 + l.length))
theorem LexTo.nil (ok : List UInt8 → Prop) : LexTo [] [] ok := fun m at0 _ => ⟨[], rfl, (L.preL_nil _).symm⟩
theorem LexTo.comp {l1 l2 : List UInt8} {k1 k2 : List Tb} {o1 o2 : List UInt8 → Prop} (h1 : LexTo l1 k1 o1) (h2 : LexTo l2 k2 o2) (h : ∀ m, o2 m → o1 (l2 ++ m)) : LexTo (l1 ++ l2) (k1 ++ k2) o2 := fun m at0 hm => by
  obtain ⟨u1, e1, g1⟩ := h1 (l2 ++ m) at0 (h m hm)
  obtain ⟨u2, e2, g2⟩ := h2 m (at0 + l1.length) hm
  refine ⟨u1 ++ u2, by rw [List.map_append, e1, e2], ?_⟩
  rw [List.append_assoc, g1, g2, L.preL_append, List.length_append, Nat.add_assoc]
theorem LexTo.blank (ok : List UInt8 → Prop) : LexTo [32] [] ok := fun m at0 _ => ⟨[], rfl, by
  rw [L.preL_nil]
  exact L.lexL_blank (by decide)⟩
theorem LexTo.weak {l : List UInt8} {k : List Tb} {o1 o2 : List UInt8 → Prop} (h : LexTo l k o1) (ho : ∀ m, o2 m → o1 m) : LexTo l k o2 := fun m at0 hm => h m at0 (ho m hm)
theorem LexTo.tok {l : List UInt8} {ok : List UInt8 → Prop} {k n : Int} {c : UInt8} {r : List UInt8} (hl : l = c :: r) (hb : L.blankB (c.toNat : Int) = false) (h : ∀ m, ok m → L.tokR (l ++ m) = ⟨0, k, l.length, n⟩) : LexTo l [(k, bs l, n)] ok := fun m at0 hm => by
  subst hl
  have ht := h m hm
  have he : (L.tokR (c :: (r ++ m))).err = 0 := by
    have : L.tokR (c :: (r ++ m)) = ⟨0, k, (c :: r).length, n⟩ := ht
    rw [this]
  have := L.lexL_tok (at0 := at0) hb he
  have ht : L.tokR (c :: (r ++ m)) = ⟨0, k, (c :: r).length, n⟩ := ht
  refine ⟨[⟨k, at0, bs (c :: r), n⟩], rfl, ?_⟩
  show L.lexL (c :: (r ++ m)) at0 = _
  rw [this]
  unfold L.tkAt
  rw [ht]
  have e1 : (c :: (r ++ m)).take (c :: r).length = c :: r := by simp
  have e2 : (c :: (r ++ m)).drop (c :: r).length = m := by simp
  rw [e1, e2]
  rfl
theorem run_inside {p : Int → Bool} {m : List UInt8} : ∀ {l : List UInt8}, (∃ x ∈ l, p (x.toNat : Int) = false) → L.runN p (l ++ m) = L.runN p l
  | [], h => by obtain ⟨x, hx, _⟩ := h; cases hx
  | c :: l, h => by
    rw [List.cons_append, L.runN_cons, L.runN_cons]
    by_cases hc : p (c.toNat : Int) = true
    · rw [if_pos hc, if_pos hc]
      obtain ⟨x, hx, hp⟩ := h
      rcases List.mem_cons.1 hx with rfl | hx
      · rw [hc] at hp; cases hp
      · rw [run_inside ⟨x, hx, hp⟩]
    · rw [if_neg hc, if_neg hc]
theorem run_full {p : Int → Bool} {l m : List UInt8} (h : ∀ x ∈ l, p (x.toNat : Int) = true) (hm : ∀ c m', m = c :: m' → p (c.toNat : Int) = false) : L.runN p (l ++ m) = l.length := by
  rw [L.runN_behind hm, L.runN_eq_length h]
theorem take_le {l m : List UInt8} {n : Nat} (h : n ≤ l.length) : (l ++ m).take n = l.take n := L.take_behind h
theorem count_58 {l : List UInt8} (h : (58 : UInt8) ∉ l) (n : Nat) : (l.take n).count 58 = 0 := List.count_eq_zero.2 fun hm => h (List.mem_of_mem_take hm)
/-- Nothing that goes on a word. -/
def Fw (m : List UInt8) : Prop := ∀ c m', m = c :: m' → L.wordB (c.toNat : Int) = false
/-- Nothing that goes on a number. -/
def Fn (m : List UInt8) : Prop := ∀ c m', m = c :: m' → L.wordB (c.toNat : Int) = false ∧ c ≠ 46 ∧ (c = 58 → ∃ (d : List UInt8) (r : List UInt8), m' = d ++ 93 :: r ∧ ∀ x ∈ d, L.digitB (x.toNat : Int) = true)
theorem word_tok {l : List UInt8} {c : UInt8} {r : List UInt8} (hl : l = c :: r) (h1 : L.letterB (c.toNat : Int) = true) (h2 : ∀ x ∈ l, L.wordB (x.toNat : Int) = true) (h3 : ∃ x ∈ l, L.sixB (x.toNat : Int) = false) {m : List UInt8} (hm : Fw m) : L.tokR (l ++ m) = ⟨0, 2, l.length, 0⟩ := by
  have h58 : (58 : UInt8) ∉ l := fun h => by have := h2 58 h; revert this; decide
  have hd : L.hdI (l ++ m) = (c.toNat : Int) := by subst hl; rfl
  have hnd : L.digitB (c.toNat : Int) = false := by
    simp [L.letterB] at h1
    simp [L.digitB]
    omega
  unfold L.tokR
  rw [run_inside h3, take_le (L.runN_le _ _), count_58 h58, if_neg (by omega), hd, hnd, if_neg (by decide), h1, if_pos rfl, run_full h2 hm]
theorem LexTo.word {l : List UInt8} {c : UInt8} {r : List UInt8} (hl : l = c :: r) (h1 : L.letterB (c.toNat : Int) = true) (h2 : ∀ x ∈ l, L.wordB (x.toNat : Int) = true) (h3 : ∃ x ∈ l, L.sixB (x.toNat : Int) = false) : LexTo l [wK l] Fw :=
  LexTo.tok hl (by simp [L.letterB] at h1; simp [L.blankB]; omega) fun m hm => word_tok hl h1 h2 h3 hm
/-- A sign of one byte that begins none of two. -/
theorem sign_tok {c : UInt8} (hc : c = 40 ∨ c = 41 ∨ c = 91 ∨ c = 93 ∨ c = 45 ∨ c = 47) (m : List UInt8) : L.tokR ([c] ++ m) = ⟨0, 5, 1, 0⟩ := by
  have h6 : L.sixB (c.toNat : Int) = false := by rcases hc with rfl | rfl | rfl | rfl | rfl | rfl <;> decide
  have hr : L.runN L.sixB ([c] ++ m) = 0 := by
    show L.runN L.sixB (c :: m) = 0
    rw [L.runN_cons, if_neg (by rw [h6]; decide)]
  have hd : L.hdI ([c] ++ m) = (c.toNat : Int) := rfl
  have hs : L.signN ([c] ++ m) = 1 := by
    have h2 : L.twos.contains (([c] ++ m).take 2) = false := by
      cases m with
      | nil => rcases hc with rfl | rfl | rfl | rfl | rfl | rfl <;> rfl
      | cons b m => rcases hc with rfl | rfl | rfl | rfl | rfl | rfl <;> simp [L.twos]
    unfold L.signN
    rw [h2]
    rcases hc with rfl | rfl | rfl | rfl | rfl | rfl <;> rfl
  unfold L.tokR
  rw [hr, hd, hs, List.take_zero, if_neg (by simp), if_neg (by rcases hc with rfl | rfl | rfl | rfl | rfl | rfl <;> decide), if_neg (by rcases hc with rfl | rfl | rfl | rfl | rfl | rfl <;> decide), if_neg (by omega)]
theorem LexTo.sign {c : UInt8} (hc : c = 40 ∨ c = 41 ∨ c = 91 ∨ c = 93 ∨ c = 45 ∨ c = 47) (ok : List UInt8 → Prop) : LexTo [c] [sK [c]] ok :=
  LexTo.tok rfl (by rcases hc with rfl | rfl | rfl | rfl | rfl | rfl <;> decide) fun m _ => sign_tok hc m
/-- A sign with a blank behind it. -/
def Fb (m : List UInt8) : Prop := ∃ m', m = 32 :: m'
theorem LexTo.signs {l : List UInt8} {c : UInt8} {r : List UInt8} (hl : l = c :: r) (h : L.tokR l = ⟨0, 5, l.length, 0⟩) (hb : L.blankB (c.toNat : Int) = false) : LexTo l [sK l] Fb :=
  LexTo.tok hl hb fun m ⟨m', e⟩ => by
    subst e
    have := L.tokR_behind (l := l) (m := 32 :: m') (by rw [hl]; simp) (L.stops_blank (by decide))
    rw [this, h]
theorem isD_int {b : UInt8} (h : isD b = true) : L.digitB (b.toNat : Int) = true := by
  simp [isD] at h
  simp [L.digitB]
  omega
theorem digit_word {x : UInt8} (h : L.digitB (x.toNat : Int) = true) : L.wordB (x.toNat : Int) = true ∧ L.quadB (x.toNat : Int) = true ∧ L.sixB (x.toNat : Int) = true := L.word_digit h
theorem valL_dec : ∀ (l : List UInt8) (v : Nat), (∀ b ∈ l, isD b = true) → valD v l ≤ 4294967295 → L.valL false l (v : Int) = some (valD v l : Int)
  | [], v, _, _ => rfl
  | b :: l, v, hd, hv => by
    have hb := isD_int (hd b List.mem_cons_self)
    have hb2 : 48 ≤ b.toNat ∧ b.toNat ≤ 57 := by have := hd b List.mem_cons_self; simp [isD] at this; exact this
    have hdig : L.dig false (b.toNat : Int) = ((b.toNat - 48 : Nat) : Int) := by
      unfold L.dig
      rw [if_neg (by decide), if_pos hb]
      omega
    have hge := valD_ge l (v * 10 + (b.toNat - 48))
    have hv2 : valD (v * 10 + (b.toNat - 48)) l ≤ 4294967295 := hv
    have hbase : L.baseI false = 10 := rfl
    unfold L.valL
    rw [hdig, hbase, if_neg (by omega), if_neg (by omega)]
    have := valL_dec l (v * 10 + (b.toNat - 48)) (fun x hx => hd x (List.mem_cons_of_mem _ hx)) hv2
    rw [show (v : Int) * 10 + ((b.toNat - 48 : Nat) : Int) = ((v * 10 + (b.toNat - 48) : Nat) : Int) from by push_cast; rfl, this]
    rfl
theorem num_dcl {v : Nat} (h : v ≤ 4294967295) : L.numL (dcl v) = some (v : Int) := by
  have hd := dcl_digits v
  have hv := dcl_val h
  obtain ⟨h1, h2⟩ := dcl_can h
  have hlen : 0 < (dcl v).length := List.length_pos_iff.2 h1
  unfold L.numL
  rw [if_neg, if_neg h2, if_neg (by omega)]
  · have := valL_dec (dcl v) 0 hd (by rw [hv]; exact h)
    rw [hv] at this
    exact this
  · intro hp
    cases hdc : dcl v with
    | nil => exact h1 hdc
    | cons a l =>
      rw [hdc] at hp hd
      cases l with
      | nil => simp at hp
      | cons b l =>
        simp at hp
        have := hd b (by simp)
        rw [← hp.2] at this
        revert this
        decide
theorem num_tok {l : List UInt8} {v : Int} (hl : l ≠ []) (hd : ∀ b ∈ l, L.digitB (b.toNat : Int) = true) (hv : L.numL l = some v) {m : List UInt8} (hm : Fn m) : L.tokR (l ++ m) = ⟨0, 1, l.length, v⟩ := by
  obtain ⟨c, r, rfl⟩ : ∃ c r, l = c :: r := by cases l with | nil => exact absurd rfl hl | cons c r => exact ⟨c, r, rfl⟩
  have h58 : (58 : UInt8) ∉ c :: r := fun h => by have := hd 58 h; revert this; decide
  have h46 : (46 : UInt8) ∉ c :: r := fun h => by have := hd 46 h; revert this; decide
  have hdh : L.hdI (c :: r ++ m) = (c.toNat : Int) := rfl
  have hsix : ((c :: r ++ m).take (L.runN L.sixB (c :: r ++ m))).count 58 ≤ 1 := by
    cases m with
    | nil =>
      rw [List.append_nil, count_58 h58]
      omega
    | cons b m' =>
      obtain ⟨w, _, hcol⟩ := hm b m' rfl
      by_cases hb : b = 58
      · subst hb
        obtain ⟨d, r2, rfl, hdd⟩ := hcol rfl
        have e : c :: r ++ 58 :: (d ++ 93 :: r2) = (c :: r ++ 58 :: d) ++ 93 :: r2 := by simp
        have hall : ∀ x ∈ c :: r ++ 58 :: d, L.sixB (x.toNat : Int) = true := fun x hx => by
          rcases List.mem_append.1 hx with hx | hx
          · exact (digit_word (hd x hx)).2.2
          · rcases List.mem_cons.1 hx with rfl | hx
            · decide
            · exact (digit_word (hdd x hx)).2.2
        rw [e, run_full hall (fun x y h => by cases h; decide), take_le (Nat.le_refl _), List.take_length, List.count_append]
        have z1 : (c :: r).count 58 = 0 := List.count_eq_zero.2 h58
        have z2 : d.count 58 = 0 := List.count_eq_zero.2 fun h => by have := hdd 58 h; revert this; decide
        have z3 : (58 :: d).count 58 = d.count 58 + 1 := List.count_cons_self
        rw [z1, z3, z2]
        omega
      · have hb6 : L.sixB (b.toNat : Int) = false := by
          have h58b : (b.toNat : Int) ≠ 58 := fun h => hb (by
            apply UInt8.toNat_inj.1
            show b.toNat = 58
            omega)
          simp [L.wordB, L.digitB, L.letterB] at w
          simp [L.sixB, L.hexB, L.digitB]
          omega
        rw [run_full (fun x hx => (digit_word (hd x hx)).2.2) (fun x y h => by cases h; exact hb6), take_le (Nat.le_refl _), List.take_length]
        rw [List.count_eq_zero.2 h58]
        omega
  have hw : L.runN L.wordB (c :: r ++ m) = (c :: r).length := run_full (fun x hx => (digit_word (hd x hx)).1) fun x y h => (hm x y h).1
  have hq : L.runN L.quadB (c :: r ++ m) = (c :: r).length := run_full (fun x hx => (digit_word (hd x hx)).2.1) fun x y h => by
    obtain ⟨w, h46, _⟩ := hm x y h
    have : (x.toNat : Int) ≠ 46 := fun e => h46 (by apply UInt8.toNat_inj.1; show x.toNat = 46; omega)
    simp [L.wordB] at w
    simp [L.quadB, w.1]
    omega
  unfold L.tokR
  rw [if_neg (by omega), hdh, if_pos (hd c List.mem_cons_self)]
  unfold L.figR
  rw [hq, hw, take_le (Nat.le_refl _), List.take_length, List.count_eq_zero.2 h46, if_neg (by omega), hv]
theorem LexTo.num {v : Int} (h0 : 0 ≤ v) (h1 : v ≤ 4294967295) : LexTo (numL v) [nK v] Fn := by
  have hne : numL v ≠ [] := dcl_pos _
  obtain ⟨c, r, hc⟩ : ∃ c r, numL v = c :: r := by cases h : numL v with | nil => exact absurd h hne | cons c r => exact ⟨c, r, rfl⟩
  have hd : ∀ b ∈ numL v, L.digitB (b.toNat : Int) = true := fun b hb => isD_int (dcl_digits _ b hb)
  refine LexTo.tok hc ?_ fun m hm => num_tok hne hd ?_ hm
  · have := hd c (by rw [hc]; exact List.mem_cons_self)
    simp [L.digitB] at this
    simp [L.blankB]
    omega
  · have := num_dcl (v := v.toNat) (by omega)
    rw [show ((v.toNat : Nat) : Int) = v from by omega] at this
    exact this
end Go.Proofs.YtffkaphbgfdpaaaGreatDoor
end

section
/- Addresses' and leaves' texts are their tokens. Plain. -/
namespace Go.Proofs.YtffkaphbgfdpaaaGreatDoor
open Go.RowKit Go.Shelf T
open L (Tk)
set_option linter.unusedVariables false
set_option linter.unusedSimpArgs false
set_option maxRecDepth 100000

/-- A part's end. -/
def Fo (m : List UInt8) : Prop := ∀ c m', m = c :: m' → c = 32 ∨ c = 41 ∨ c = 93
/-- A part's end, or an index's, with its size behind it. -/
def Fc (m : List UInt8) : Prop := Fo m ∨ ∃ (d : List UInt8) (r : List UInt8), m = 58 :: (d ++ 93 :: r) ∧ ∀ x ∈ d, L.digitB (x.toNat : Int) = true
theorem Fc.num {m : List UInt8} (h : Fc m) : Fn m := fun c m' e => by
  rcases h with h | ⟨d, r, rfl, hd⟩
  · rcases h c m' e with rfl | rfl | rfl <;> exact ⟨by decide, by decide, fun h => absurd h (by decide)⟩
  · cases e
    exact ⟨by decide, by decide, fun _ => ⟨d, r, rfl, hd⟩⟩
theorem Fc.word {m : List UInt8} (h : Fc m) : Fw m := fun c m' e => (h.num c m' e).1
theorem fo_blank (m : List UInt8) : Fo (32 :: m) := fun c m' e => by cases e; exact .inl rfl
theorem fo_shut (m : List UInt8) : Fo (41 :: m) := fun c m' e => by cases e; exact .inr (.inl rfl)
theorem fo_end (m : List UInt8) : Fo (93 :: m) := fun c m' e => by cases e; exact .inr (.inr rfl)
theorem fo_nil : Fo [] := fun c m' e => by cases e
def Tr0 (m : List UInt8) : Prop := True
/-- A word: it begins with a letter, all of it goes on words, and some letter of it is none of a number in base 16. -/
def wordOk (l : List UInt8) : Bool := (match l with | c :: _ => L.letterB (c.toNat : Int) | [] => false) && l.all (fun x => L.wordB (x.toNat : Int)) && l.any fun x => !L.sixB (x.toNat : Int)
theorem LexTo.wordB {l : List UInt8} (h : wordOk l = true) : LexTo l [wK l] Fw := by
  unfold wordOk at h
  simp only [Bool.and_eq_true] at h
  obtain ⟨⟨h1, h2⟩, h3⟩ := h
  cases l with
  | nil => cases h1
  | cons c r =>
    obtain ⟨x, hx, hp⟩ := List.any_eq_true.1 h3
    exact LexTo.word rfl h1 (fun y hy => List.all_eq_true.1 h2 y hy) ⟨x, hx, by simpa using hp⟩
theorem LexTo.wb {l : List UInt8} (h : wordOk l = true) : LexTo (l ++ [32]) [wK l] Tr0 := by
  have := LexTo.comp (LexTo.wordB h) (LexTo.blank Tr0) fun m _ => by
    show Fw (32 :: m)
    intro c m' e
    cases e
    decide
  simpa using this
theorem quad_tok {l : List UInt8} {c : UInt8} {r : List UInt8} (hl : l = c :: r) (hd : L.digitB (c.toNat : Int) = true) (hq : ∀ x ∈ l, L.quadB (x.toNat : Int) = true) (h46 : (46 : UInt8) ∈ l) {m : List UInt8} (hm : ∀ c m', m = c :: m' → L.quadB (c.toNat : Int) = false) : L.tokR (l ++ m) = ⟨0, 3, l.length, 0⟩ := by
  have h58 : (58 : UInt8) ∉ l := fun h => by have := hq 58 h; revert this; decide
  have hdh : L.hdI (l ++ m) = (c.toNat : Int) := by subst hl; rfl
  unfold L.tokR
  rw [run_inside ⟨46, h46, by decide⟩, take_le (L.runN_le _ _), count_58 h58, if_neg (by omega), hdh, if_pos hd]
  unfold L.figR
  rw [run_full hq hm, take_le (Nat.le_refl _), List.take_length, if_pos (List.count_pos_iff.2 h46)]
theorem six_tok {l : List UInt8} (hs : ∀ x ∈ l, L.sixB (x.toNat : Int) = true) (h2 : 2 ≤ l.count 58) {m : List UInt8} (hm : ∀ c m', m = c :: m' → L.sixB (c.toNat : Int) = false) : L.tokR (l ++ m) = ⟨0, 4, l.length, 0⟩ := by
  unfold L.tokR
  rw [run_full hs hm, take_le (Nat.le_refl _), List.take_length, if_pos h2]
theorem print4_form {a : List Nat} (h4 : a.length = 4) : (∀ x ∈ print4L a, L.quadB (x.toNat : Int) = true) ∧ (46 : UInt8) ∈ print4L a ∧ ∃ c r, print4L a = c :: r ∧ L.digitB (c.toNat : Int) = true := by
  match a, h4 with
  | [x, y, z, t], _ =>
    have hp : print4L [x, y, z, t] = dcl x ++ 46 :: (dcl y ++ 46 :: (dcl z ++ 46 :: dcl t)) := by simp [print4L, joinL]
    have hd : ∀ n : Nat, ∀ b ∈ dcl n, L.quadB (b.toNat : Int) = true := fun n b hb => (digit_word (isD_int (dcl_digits n b hb))).2.1
    rw [hp]
    refine ⟨fun b hb => ?_, by simp, ?_⟩
    · simp only [List.mem_append, List.mem_cons] at hb
      rcases hb with hb | rfl | hb | rfl | hb | rfl | hb
      · exact hd _ _ hb
      · decide
      · exact hd _ _ hb
      · decide
      · exact hd _ _ hb
      · decide
      · exact hd _ _ hb
    · cases h : dcl x with
      | nil => exact absurd h (dcl_pos x)
      | cons c r => exact ⟨c, _, rfl, isD_int (dcl_digits x c (by rw [h]; exact List.mem_cons_self))⟩
theorem hexF_six : ∀ (f n : Nat), ∀ x ∈ hexF f n, L.sixB (x.toNat : Int) = true
  | 0, n, x, h => by simp [hexF] at h
  | f + 1, n, x, h => by
    unfold hexF at h
    have hh : ∀ k : Nat, k < 16 → L.sixB ((hch k).toNat : Int) = true := fun k hk => by
      have : ∀ i : Fin 16, L.sixB ((hch i.val).toNat : Int) = true := by decide
      exact this ⟨k, hk⟩
    split at h
    · rw [List.mem_singleton] at h
      subst h
      exact hh _ (by omega)
    · rcases List.mem_append.1 h with h | h
      · exact hexF_six f _ x h
      · rw [List.mem_singleton] at h
        subst h
        exact hh _ (Nat.mod_lt _ (by decide))
theorem join_six : ∀ (gs : List Nat), ∀ x ∈ joinL 58 (gs.map hexL), L.sixB (x.toNat : Int) = true
  | [], x, h => by simp [joinL] at h
  | [g], x, h => by
    have h : x ∈ hexL g := by simpa [joinL] using h
    exact hexF_six 4 g x h
  | g :: k :: gs, x, h => by
    have e : joinL 58 ((g :: k :: gs).map hexL) = hexL g ++ 58 :: joinL 58 ((k :: gs).map hexL) := rfl
    rw [e] at h
    rcases List.mem_append.1 h with h | h
    · exact hexF_six 4 g x h
    · rcases List.mem_cons.1 h with rfl | h
      · decide
      · exact join_six (k :: gs) x h
theorem print6_form {gs : List Nat} (h8 : gs.length = 8) : (∀ x ∈ print6L gs, L.sixB (x.toNat : Int) = true) ∧ 2 ≤ (print6L gs).count 58 := by
  unfold print6L textG
  split
  · refine ⟨join_six gs, ?_⟩
    match gs, h8 with
    | [a, b, c, d, e, f, g, h], _ =>
      have : joinL 58 ([a, b, c, d, e, f, g, h].map hexL) = hexL a ++ 58 :: (hexL b ++ 58 :: joinL 58 ([c, d, e, f, g, h].map hexL)) := rfl
      rw [this]
      simp only [List.count_append, List.count_cons_self]
      omega
  · refine ⟨fun x hx => ?_, ?_⟩
    · rcases List.mem_append.1 hx with hx | hx
      · exact join_six _ x hx
      · rcases List.mem_cons.1 hx with rfl | hx
        · decide
        · rcases List.mem_cons.1 hx with rfl | hx
          · decide
          · exact join_six _ x hx
    · simp only [List.count_append, List.count_cons_self]
      omega
/-- Behind an address. -/
def Fs (m : List UInt8) : Prop := ∀ c m', m = c :: m' → c = 32 ∨ c = 41 ∨ c = 93 ∨ c = 47
theorem six_blank {c : UInt8} (h : L.sixB (c.toNat : Int) = true) : L.blankB (c.toNat : Int) = false := by
  simp [L.sixB, L.hexB, L.digitB] at h
  simp [L.blankB]
  omega
theorem LexTo.addr {n : Node} (hb : T.Node.bytes n) (ho : n.of = 3 ∨ n.of = 2) : LexTo (addrL n) [aK n] Fs := by
  obtain ⟨h16, h255, hn⟩ := bytes_nat hb
  rcases ho with h | h
  · obtain ⟨g1, g2, g3⟩ := pairs_bytes 8 _ h16 h255
    have ha : addrL n = print6L (pairsA (bytesA n.addr)) := by unfold addrL; rw [if_pos h]
    obtain ⟨f1, f2⟩ := print6_form g2
    have hk : aK n = (4, bs (addrL n), 0) := by unfold aK; rw [if_pos h]
    rw [hk]
    rw [← ha] at f1 f2
    obtain ⟨c, r, hc⟩ : ∃ c r, addrL n = c :: r := by
      cases h : addrL n with
      | nil => rw [h] at f2; simp at f2
      | cons c r => exact ⟨c, r, rfl⟩
    refine LexTo.tok hc (six_blank (f1 c (by rw [hc]; exact List.mem_cons_self))) fun m hm => six_tok f1 f2 fun x y e => ?_
    rcases hm x y e with rfl | rfl | rfl | rfl <;> decide
  · have ha : addrL n = print4L ((bytesA n.addr).take 4) := by unfold addrL; rw [if_neg (by rw [h]; decide)]
    obtain ⟨f1, f2, c, r, hc, f3⟩ := print4_form (a := (bytesA n.addr).take 4) (by simp [h16])
    have hk : aK n = (3, bs (addrL n), 0) := by unfold aK; rw [if_neg (by rw [h]; decide)]
    rw [hk]
    rw [← ha] at f1 f2 hc
    refine LexTo.tok hc ?_ fun m hm => quad_tok hc f3 f1 f2 fun x y e => ?_
    · exact six_blank (digit_word f3).2.2
    · rcases hm x y e with rfl | rfl | rfl | rfl <;> decide
theorem name_ok {o : Int} (h1 : 1 ≤ o) (h2 : o ≤ 13) : wordOk (nameL o) = true := by
  have : o = 1 ∨ o = 2 ∨ o = 3 ∨ o = 4 ∨ o = 5 ∨ o = 6 ∨ o = 7 ∨ o = 8 ∨ o = 9 ∨ o = 10 ∨ o = 11 ∨ o = 12 ∨ o = 13 := by omega
  rcases this with rfl | rfl | rfl | rfl | rfl | rfl | rfl | rfl | rfl | rfl | rfl | rfl | rfl <;> decide
theorem LexTo.side {sd : Int} (h0 : 0 ≤ sd) (h2 : sd ≤ 2) : LexTo (sideL sd) (sideK sd) Tr0 := by
  have : sd = 0 ∨ sd = 1 ∨ sd = 2 := by omega
  rcases this with rfl | rfl | rfl
  · exact LexTo.nil _
  · exact LexTo.wb (l := [115, 114, 99]) (by decide)
  · exact LexTo.wb (l := [100, 115, 116]) (by decide)
end Go.Proofs.YtffkaphbgfdpaaaGreatDoor
end

section
/- A tree's text is its tokens. Plain. -/
namespace Go.Proofs.YtffkaphbgfdpaaaGreatDoor
open Go.RowKit Go.Shelf T
open L (Tk)
set_option linter.unusedVariables false
set_option linter.unusedSimpArgs false
set_option maxRecDepth 100000

theorem fw_blank (m : List UInt8) : Fw (32 :: m) := fun c m' e => by cases e; decide
theorem fn_blank (m : List UInt8) : Fn (32 :: m) := (Fc.num (.inl (fo_blank m)))
/-- What may stand behind a node without parts. -/
def okL (n : Node) (m : List UInt8) : Prop := Fo m ∨ (n.kind ≠ 14 ∧ Fc m)
theorem okL.fc {n : Node} {m : List UInt8} (h : okL n m) : Fc m := by
  rcases h with h | h
  · exact .inl h
  · exact h.2
theorem lex_ports {n : Node} (hu : isU32 n.n) (hm : isU32 n.m) (h0 : 0 ≤ n.side) (h2 : n.side ≤ 2) : LexTo (sideL n.side ++ (if n.n = n.m then [112, 111, 114, 116, 32] ++ numL n.n else [112, 111, 114, 116, 114, 97, 110, 103, 101, 32] ++ (numL n.n ++ (45 :: numL n.m))))
    (sideK n.side ++ (if n.n = n.m then [wK [112, 111, 114, 116], nK n.n] else [wK [112, 111, 114, 116, 114, 97, 110, 103, 101], nK n.n, sK [45], nK n.m])) Fn := by
  refine LexTo.comp (LexTo.side h0 h2) (o2 := Fn) ?_ fun _ _ => trivial
  split
  · exact LexTo.comp (k1 := [wK [112, 111, 114, 116]]) (LexTo.wb (l := [112, 111, 114, 116]) (by decide)) (LexTo.num hu.1 hu.2) fun _ _ => trivial
  · refine LexTo.comp (k1 := [wK [112, 111, 114, 116, 114, 97, 110, 103, 101]]) (o2 := Fn) (LexTo.wb (l := [112, 111, 114, 116, 114, 97, 110, 103, 101]) (by decide)) ?_ fun _ _ => trivial
    refine LexTo.comp (k1 := [nK n.n]) (k2 := [sK [45], nK n.m]) (o2 := Fn) (LexTo.num hu.1 hu.2) ?_ ?_
    · exact LexTo.comp (l1 := [45]) (k1 := [sK [45]]) (LexTo.sign (by decide) Tr0) (LexTo.num hm.1 hm.2) fun _ _ => trivial
    · intro m _ c m' e
      cases e
      exact ⟨by decide, by decide, fun h => absurd h (by decide)⟩
theorem lex_leaf {n : Node} (hn : NF n) (ha : arityK n.kind = some 0) : LexTo (leafL n) (leafK n) (okL n) := by
  have hu := hn.un
  have hf := hn.fit
  obtain ⟨u0, u1⟩ := hn.u32
  have : n.kind = 1 ∨ n.kind = 2 ∨ n.kind = 10 ∨ n.kind = 11 ∨ n.kind = 12 ∨ n.kind = 13 ∨ n.kind = 14 ∨ n.kind = 15 ∨ n.kind = 16 := by
    unfold arityK at ha
    split at ha
    · assumption
    · split at ha
      · cases ha
      · split at ha <;> cases ha
  rcases this with h | h | h | h | h | h | h | h | h
  · have e1 : leafL n = numL n.n := by simp [leafL, h]
    have e2 : leafK n = [nK n.n] := by simp [leafK, h]
    rw [e1, e2]
    exact (LexTo.num u0 u1).weak fun m hm => hm.fc.num
  · have e1 : leafL n = [108, 101, 110] := by simp [leafL, h]
    have e2 : leafK n = [wK [108, 101, 110]] := by simp [leafK, h]
    rw [e1, e2]
    exact (LexTo.wordB (by decide)).weak fun m hm => hm.fc.word
  · have e1 : leafL n = at_ wayW n.side := by simp [leafL, h]
    have e2 : leafK n = [wK (at_ wayW n.side)] := by simp [leafK, h]
    rw [e1, e2]
    simp [unusedB, h, inR] at hu
    have : n.side = 1 ∨ n.side = 2 := by omega
    rcases this with e | e <;> rw [e] <;> exact (LexTo.wordB (by decide)).weak fun m hm => hm.fc.word
  · have e1 : leafL n = nameL n.of := by simp [leafL, h]
    have e2 : leafK n = [wK (nameL n.of)] := by simp [leafK, h]
    rw [e1, e2]
    simp [unusedB, h, inR] at hu
    exact (LexTo.wordB (name_ok (by omega) (by omega))).weak fun m hm => hm.fc.word
  · have e1 : leafL n = ([112, 114, 111, 116, 111] ++ [32]) ++ numL n.n := by simp [leafL, h]
    have e2 : leafK n = [wK [112, 114, 111, 116, 111]] ++ [nK n.n] := by simp [leafK, h]
    rw [e1, e2]
    exact (LexTo.comp (LexTo.wb (by decide)) (LexTo.num u0 u1) fun _ _ => trivial).weak fun m hm => hm.fc.num
  · have e1 : leafL n = (nameL n.of ++ [32]) ++ (([112, 114, 111, 116, 111] ++ [32]) ++ numL n.n) := by simp [leafL, h]
    have e2 : leafK n = [wK (nameL n.of)] ++ ([wK [112, 114, 111, 116, 111]] ++ [nK n.n]) := by simp [leafK, h]
    rw [e1, e2]
    simp [unusedB, h, inR] at hu
    exact (LexTo.comp (LexTo.wb (name_ok (by omega) (by omega))) (LexTo.comp (LexTo.wb (by decide)) (LexTo.num u0 u1) fun _ _ => trivial) fun _ _ => trivial).weak fun m hm => hm.fc.num
  · have e1 : leafL n = sideL n.side ++ (([104, 111, 115, 116] ++ [32]) ++ addrL n) := by simp [leafL, h]
    have e2 : leafK n = sideK n.side ++ ([wK [104, 111, 115, 116]] ++ [aK n]) := by simp [leafK, h]
    rw [e1, e2]
    simp [unusedB, h] at hu
    obtain ⟨ho, s0, s2⟩ := net_of hu.2
    refine (LexTo.comp (LexTo.side s0 s2) (LexTo.comp (LexTo.wb (by decide)) (LexTo.addr hn.bytes (by rcases ho with h | h; exact .inl h; exact .inr h.1)) fun _ _ => trivial) fun _ _ => trivial).weak fun m hm => ?_
    rcases hm with hm | hm
    · intro c m' e
      rcases hm c m' e with h | h | h
      · exact .inl h
      · exact .inr (.inl h)
      · exact .inr (.inr (.inl h))
    · exact absurd h hm.1
  · have e1 : leafL n = sideL n.side ++ (([110, 101, 116] ++ [32]) ++ (addrL n ++ ([47] ++ numL n.bits))) := by simp [leafL, h]
    have e2 : leafK n = sideK n.side ++ ([wK [110, 101, 116]] ++ ([aK n] ++ ([sK [47]] ++ [nK n.bits]))) := by simp [leafK, h]
    rw [e1, e2]
    simp [unusedB, h] at hu
    obtain ⟨ho, s0, s2⟩ := net_of hu.2
    have hbits : 0 ≤ n.bits ∧ n.bits ≤ 128 := by
      simp [fitsB, h, bitsB, inR, widthI] at hf
      by_cases h3 : n.of = 3 <;> simp [h3] at hf <;> omega
    refine (LexTo.comp (LexTo.side s0 s2) (LexTo.comp (LexTo.wb (by decide)) (LexTo.comp (LexTo.addr hn.bytes (by rcases ho with h | h; exact .inl h; exact .inr h.1)) (LexTo.comp (LexTo.sign (by decide) Tr0) (LexTo.num hbits.1 (by omega)) fun _ _ => trivial) ?_) fun _ _ => trivial) fun _ _ => trivial).weak fun m hm => hm.fc.num
    intro m _ c m' e
    cases e
    exact .inr (.inr (.inr rfl))
  · simp [unusedB, h] at hu
    have hp := hu.2
    simp [portB, inR] at hp
    have hm : isU32 n.m := by
      simp [fitsB, h] at hf
      exact ⟨by omega, by omega⟩
    have hl := lex_ports ⟨u0, u1⟩ hm hp.2.1 hp.2.2
    have e1 : leafL n = portsL n := by simp [leafL, h]
    have e2 : leafK n = (if n.of = 0 then [] else [wK (nameL n.of)]) ++ (sideK n.side ++ (if n.n = n.m then [wK [112, 111, 114, 116], nK n.n] else [wK [112, 111, 114, 116, 114, 97, 110, 103, 101], nK n.n, sK [45], nK n.m])) := by simp [leafK, h]
    rw [e1, e2]
    unfold portsL
    by_cases ho : n.of = 0
    · rw [if_pos ho, if_pos ho, ho]
      exact hl.weak fun m hm => hm.fc.num
    · rw [if_neg ho, if_neg ho]
      exact (LexTo.comp (LexTo.wb (name_ok (by omega) (by omega))) hl fun _ _ => trivial).weak fun m hm => hm.fc.num
/-- In no index stands a host. -/
def Calm : Tr → Prop
  | .leaf _ => True
  | .un n x => (n.kind = 3 → ∀ m ∈ x.flat, m.kind ≠ 14) ∧ Calm x
  | .bin _ x y => Calm x ∧ Calm y
def okX (x : Tr) (m : List UInt8) : Prop := Fo m ∨ ((∀ n ∈ x.flat, n.kind ≠ 14) ∧ Fc m)
theorem colon_tok {d r : List UInt8} (hd : ∀ x ∈ d, L.digitB (x.toNat : Int) = true) : L.tokR ([58] ++ (d ++ 93 :: r)) = ⟨0, 5, 1, 0⟩ := by
  have hall : ∀ x ∈ 58 :: d, L.sixB (x.toNat : Int) = true := fun x hx => by
    rcases List.mem_cons.1 hx with rfl | hx
    · decide
    · exact (digit_word (hd x hx)).2.2
  have e : [58] ++ (d ++ 93 :: r) = (58 :: d) ++ 93 :: r := by simp
  have hrun : L.runN L.sixB ([58] ++ (d ++ 93 :: r)) = (58 :: d).length := by rw [e]; exact run_full hall (fun c m' h => by cases h; decide)
  have hdh : L.hdI ([58] ++ (d ++ 93 :: r)) = 58 := rfl
  have hs : L.signN ([58] ++ (d ++ 93 :: r)) = 1 := by
    have h2 : L.twos.contains (([58] ++ (d ++ 93 :: r)).take 2) = false := by
      cases d with
      | nil => rfl
      | cons b d => simp [L.twos]
    unfold L.signN
    rw [h2]
    rfl
  unfold L.tokR
  rw [hrun, hdh, hs, if_neg, if_neg (by decide), if_neg (by decide), if_neg (by omega)]
  rw [e, take_le (Nat.le_refl _), List.take_length]
  have z : d.count 58 = 0 := List.count_eq_zero.2 fun h => by have := hd 58 h; revert this; decide
  rw [List.count_cons_self, z]
  omega
theorem LexTo.colon : LexTo [58] [sK [58]] (fun m => ∃ (d : List UInt8) (r : List UInt8), m = d ++ 93 :: r ∧ ∀ x ∈ d, L.digitB (x.toNat : Int) = true) :=
  LexTo.tok rfl (by decide) fun m ⟨d, r, e, hd⟩ => by subst e; exact colon_tok hd
theorem lex_end {n : Node} (h0 : 0 ≤ n.size) (h1 : n.size ≤ 1000000) : LexTo (endL n) (endK n) Tr0 := by
  unfold endL endK
  split
  · exact LexTo.sign (by decide) _
  · refine LexTo.comp (l1 := [58]) (k1 := [sK [58]]) (k2 := [nK n.size, sK [93]]) (o2 := Tr0) LexTo.colon ?_ ?_
    · refine LexTo.comp (k1 := [nK n.size]) (o2 := Tr0) (LexTo.num h0 (by omega)) (LexTo.sign (by decide) Tr0) fun m _ => ?_
      exact Fc.num (.inl (fo_end m))
    · intro m _
      exact ⟨numL n.size, m, by simp, fun x hx => isD_int (dcl_digits _ x hx)⟩
theorem end_ok {n : Node} (m : List UInt8) : Fc (endL n ++ m) := by
  unfold endL
  split
  · exact .inl (fo_end m)
  · exact .inr ⟨numL n.size, m, by simp, fun x hx => isD_int (dcl_digits _ x hx)⟩
theorem lex_op {n : Node} (hn : NF n) (h2 : arityK n.kind = some 2) : LexTo (signL n) [opK n] Fb := by
  have hk : n.kind = 4 ∨ n.kind = 6 ∨ n.kind = 7 ∨ n.kind = 8 := by
    unfold arityK at h2
    repeat' split at h2
    all_goals first | omega | (cases h2; done) | assumption
  have hu := hn.un
  rcases hk with h | h | h | h
  · have e1 : signL n = at_ ariW n.op := by simp [signL, h]
    have e2 : opK n = sK (at_ ariW n.op) := by simp [opK, signL, h]
    rw [e1, e2]
    simp [unusedB, h, inR] at hu
    have : n.op = 1 ∨ n.op = 2 ∨ n.op = 3 ∨ n.op = 4 ∨ n.op = 5 ∨ n.op = 6 ∨ n.op = 7 ∨ n.op = 8 ∨ n.op = 9 ∨ n.op = 10 := by omega
    rcases this with e | e | e | e | e | e | e | e | e | e <;> rw [e] <;> exact LexTo.signs rfl (by decide) (by decide)
  · have e1 : signL n = at_ relW n.op := by simp [signL, h]
    have e2 : opK n = sK (at_ relW n.op) := by simp [opK, signL, h]
    rw [e1, e2]
    simp [unusedB, h, inR] at hu
    have : n.op = 1 ∨ n.op = 2 ∨ n.op = 3 ∨ n.op = 4 ∨ n.op = 5 ∨ n.op = 6 := by omega
    rcases this with e | e | e | e | e | e <;> rw [e] <;> exact LexTo.signs rfl (by decide) (by decide)
  · have e1 : signL n = [97, 110, 100] := by simp [signL, h]
    have e2 : opK n = wK [97, 110, 100] := by simp [opK, signL, h]
    rw [e1, e2]
    exact (LexTo.wordB (by decide)).weak fun m ⟨m', e⟩ => by rw [e]; exact fw_blank m'
  · have e1 : signL n = [111, 114] := by simp [signL, h]
    have e2 : opK n = wK [111, 114] := by simp [opK, signL, h]
    rw [e1, e2]
    exact (LexTo.wordB (by decide)).weak fun m ⟨m', e⟩ => by rw [e]; exact fw_blank m'
theorem lex_put {x : Tr} {full b : Bool} (h : LexTo (saidT full x).1 (toksT full x) (okX x)) : LexTo (putS b (saidT full x)).1 (putK b (toksT full x)) (okX x) := by
  cases b with
  | true => exact h
  | false =>
    show LexTo ([40] ++ ((saidT full x).1 ++ [41])) ([sK [40]] ++ (toksT full x ++ [sK [41]])) (okX x)
    exact (LexTo.comp (o2 := Tr0) (LexTo.sign (by decide) Tr0) (LexTo.comp h (LexTo.sign (by decide) Tr0) fun m _ => .inl (fo_shut m)) fun _ _ => trivial).weak fun _ _ => trivial
theorem lex_tree (full : Bool) : ∀ x : Tr, x.Fit → AllF x → Calm x → LexTo (saidT full x).1 (toksT full x) (okX x)
  | .leaf n, hF, hA, hC => (lex_leaf (hA n (by simp [Tr.flat])) hF).weak fun m hm => by
    rcases hm with hm | ⟨h, hm⟩
    · exact .inl hm
    · exact .inr ⟨h n (by simp [Tr.flat]), hm⟩
  | .un n x, hF, hA, hC => by
    have hn : NF n := hA n (by simp [Tr.flat])
    have ih := lex_tree full x hF.2 (fun m hm => hA m (by simp [Tr.flat, hm])) hC.2
    have h359 : n.kind = 3 ∨ n.kind = 5 ∨ n.kind = 9 := by
      have := hF.1
      unfold arityK at this
      repeat' split at this
      all_goals first | omega | (cases this; done) | assumption
    rcases h359 with h | h | h
    · obtain ⟨l1, l2, -⟩ := load_of hn h
      have hsz : 0 ≤ n.size ∧ n.size ≤ 1000000 := by
        have := hn.fit
        simp [fitsB, h] at this
        omega
      have e1 : (saidT full (.un n x)).1 = nameL n.of ++ ([91] ++ ((saidT full x).1 ++ endL n)) := by simp [saidT, h]
      have e2 : toksT full (.un n x) = [wK (nameL n.of)] ++ ([sK [91]] ++ (toksT full x ++ endK n)) := by simp [toksT, h]
      rw [e1, e2]
      refine (LexTo.comp (o2 := Tr0) (LexTo.wordB (name_ok l1 (by omega))) (LexTo.comp (LexTo.sign (by decide) Tr0) (LexTo.comp ih (lex_end hsz.1 hsz.2) fun m _ => .inr ⟨hC.1 h, end_ok m⟩) fun _ _ => trivial) fun m _ => ?_).weak fun _ _ => trivial
      intro c m' e
      cases e
      decide
    · have e1 : (saidT full (.un n x)).1 = [45] ++ (putS (bareB full n true (rowK x.root)) (saidT full x)).1 := by simp [saidT, h]
      have e2 : toksT full (.un n x) = [sK [45]] ++ putK (bareB full n true (rowK x.root)) (toksT full x) := by simp [toksT, h]
      rw [e1, e2]
      refine (LexTo.comp (LexTo.sign (by decide) Tr0) (lex_put ih) fun _ _ => trivial).weak fun m hm => ?_
      rcases hm with hm | ⟨g, hm⟩
      · exact .inl hm
      · exact .inr ⟨fun m hm => g m (by simp [Tr.flat, hm]), hm⟩
    · have e1 : (saidT full (.un n x)).1 = ([110, 111, 116] ++ [32]) ++ (putS (bareB full n true (rowK x.root)) (saidT full x)).1 := by simp [saidT, h]
      have e2 : toksT full (.un n x) = [wK [110, 111, 116]] ++ putK (bareB full n true (rowK x.root)) (toksT full x) := by simp [toksT, h]
      rw [e1, e2]
      refine (LexTo.comp (LexTo.wb (by decide)) (lex_put ih) fun _ _ => trivial).weak fun m hm => ?_
      rcases hm with hm | ⟨g, hm⟩
      · exact .inl hm
      · exact .inr ⟨fun m hm => g m (by simp [Tr.flat, hm]), hm⟩
  | .bin n x y, hF, hA, hC => by
    have hn : NF n := hA n (by simp [Tr.flat])
    have ihx := lex_tree full x hF.2.1 (fun m hm => hA m (by simp [Tr.flat, hm])) hC.1
    have ihy := lex_tree full y hF.2.2 (fun m hm => hA m (by simp [Tr.flat, hm])) hC.2
    have e1 : (saidT full (.bin n x y)).1 = (putS (bareB full n false (rowK x.root)) (saidT full x)).1 ++ ([32] ++ (signL n ++ ([32] ++ (putS (bareB full n true (rowK y.root)) (saidT full y)).1))) := by simp [saidT]
    have e2 : toksT full (.bin n x y) = putK (bareB full n false (rowK x.root)) (toksT full x) ++ ([] ++ ([opK n] ++ ([] ++ putK (bareB full n true (rowK y.root)) (toksT full y)))) := by simp [toksT]
    rw [e1, e2]
    refine (LexTo.comp (lex_put ihx) (LexTo.comp (LexTo.blank Tr0) (LexTo.comp (lex_op hn hF.1) (LexTo.comp (LexTo.blank Tr0) (lex_put ihy) fun _ _ => trivial) fun m _ => ⟨_, rfl⟩) fun _ _ => trivial) fun m _ => .inl (fo_blank _)).weak fun m hm => ?_
    rcases hm with hm | ⟨g, hm⟩
    · exact .inl hm
    · exact .inr ⟨fun m hm => g m (by simp [Tr.flat, hm]), hm⟩
/-- Two trees with one text are one. -/
theorem said_inj {full : Bool} {x y : Tr} (hFx : x.Fit) (hAx : AllF x) (hCx : Calm x) (hdx : (saidT full x).2 ≤ 200) (hFy : y.Fit) (hAy : AllF y) (hCy : Calm y) (hdy : (saidT full y).2 ≤ 200) (h : (saidT full x).1 = (saidT full y).1) : x.flat = y.flat := by
  obtain ⟨u, e1, g1⟩ := lex_tree full x hFx hAx hCx [] 0 (.inl fo_nil)
  obtain ⟨v, e2, g2⟩ := lex_tree full y hFy hAy hCy [] 0 (.inl fo_nil)
  rw [List.append_nil] at g1 g2
  rw [h] at g1
  have hz := g1.symm.trans g2
  rw [L.lexL_nil] at hz
  obtain ⟨E, hE⟩ : ∃ E : Tk, (⟨0, (0 + (saidT full y).1.length : Nat), ⟨#[]⟩, 0⟩ : Tk) = E := ⟨_, rfl⟩
  have hb : tbOf E = (0, bs [], 0) := by rw [← hE]; rfl
  have hz : Except.ok (ε := Nat × Int) (u ++ [(⟨0, (0 + (saidT full y).1.length : Nat), ⟨#[]⟩, 0⟩ : Tk)]) = Except.ok (v ++ [(⟨0, (0 + (saidT full y).1.length : Nat), ⟨#[]⟩, 0⟩ : Tk)]) := hz
  rw [hE] at hz
  have hz := Except.ok.inj hz
  obtain ⟨a, p, hp⟩ := parse_tree (ts := u ++ [E]) hFx hAx hdx (e := (0, bs [], 0)) rfl (by rw [List.map_append, e1]; simp [hb])
  obtain ⟨b, q, hq⟩ := parse_tree (ts := v ++ [E]) hFy hAy hdy (e := (0, bs [], 0)) rfl (by rw [List.map_append, e2]; simp [hb])
  rw [hz, hq] at hp
  have := Except.ok.inj hp
  exact (congrArg Ps.nodes this).symm
end Go.Proofs.YtffkaphbgfdpaaaGreatDoor
end
