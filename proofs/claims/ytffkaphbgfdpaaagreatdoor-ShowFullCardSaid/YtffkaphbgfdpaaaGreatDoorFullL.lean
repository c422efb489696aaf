/- ShowFull: a filter's parts, and its text out of theirs. Plain. -/
import Derived.Test.YtffkaphbgfdpaaaGreatDoorShowQ
import Derived.Test.YtffkaphbgfdpaaaGreatDoorMf
namespace Go.Proofs.YtffkaphbgfdpaaaGreatDoor
open Go.RowKit Go.Shelf T
set_option linter.unusedVariables false
set_option linter.unusedSimpArgs false
set_option maxRecDepth 100000

/-- A list's last node. -/
def lastN (p : List Node) : Node := p.getD (p.length - 1) Node.zero
theorem lastN_flat (t : Tr) : lastN t.flat = t.root := by
  have := root_at (SubAt.whole t)
  rwa [Nat.zero_add] at this
/-- A part's text, in brackets where it has parts. -/
def boxL (n : Node) (u : List UInt8) : List UInt8 := if 0 < arI n.kind then 40 :: (u ++ [41]) else u
/-- What the law asks of a part. -/
structure PartOk (p : List Node) (u : List UInt8) : Prop where
  ok : NodesOk p
  pos : 0 < p.length
  told : toldL true p = (u, 0)
  len : u.length ≤ 10000000
theorem bin_parts {n : Node} {x y : Tr} (hF : (Tr.bin n x y).Fit) : partsT (Tr.bin n x y).flat = some [x.flat, y.flat] := by
  have ho : ofT (Tr.bin n x y).flat [] = some (startsR [Tr.bin n x y]) := ofT_tree _ [] hF
  have hs : startsR [Tr.bin n x y] = x.starts 0 ++ (y.starts x.flat.length ++ [0]) := by simp [startsR, flatR, Tr.starts]
  have hx := x.starts_len 0
  have hy := y.starts_len x.flat.length
  have hyp := y.flat_pos
  have hfl : (Tr.bin n x y).flat.length = x.flat.length + (y.flat.length + 1) := by simp [Tr.flat]
  have h1 : oneB (startsR [Tr.bin n x y]) = true := by
    rw [hs]
    unfold oneB
    refine decide_eq_true ⟨by simp only [List.length_append, List.length_cons]; omega, ?_⟩
    have := getD_right (a := x.starts 0 ++ y.starts x.flat.length) (b := [(0 : Int)]) (d := (0 : Int)) 0
    rw [← List.append_assoc, show ((x.starts 0 ++ y.starts x.flat.length) ++ [(0 : Int)]).length - 1 = (x.starts 0 ++ y.starts x.flat.length).length + 0 from by simp, this]
    rfl
  have hl := lastN_flat (Tr.bin n x y)
  unfold lastN at hl
  have ha : arityK n.kind = some 2 := hF.1
  have hst : (startsR [Tr.bin n x y]).getD ((Tr.bin n x y).flat.length - 2) 0 = (x.flat.length : Int) := by
    obtain ⟨l, e, hl2⟩ := y.starts_last x.flat.length
    have hs2 : startsR [Tr.bin n x y] = (x.starts 0 ++ l) ++ ([(x.flat.length : Int)] ++ [0]) := by rw [hs, e]; simp
    have := getD_right (a := x.starts 0 ++ l) (b := [(x.flat.length : Int)] ++ [0]) (d := (0 : Int)) 0
    rw [hs2, show (Tr.bin n x y).flat.length - 2 = (x.starts 0 ++ l).length + 0 from by rw [hfl, List.length_append, hx]; omega, this]
    rfl
  unfold partsT
  simp only [ho, h1, hl, Tr.root, ha, Option.getD_some]
  rw [if_neg (by simp), hst]
  have e1 : (Tr.bin n x y).flat.take ((x.flat.length : Int)).toNat = x.flat := by simp [Tr.flat]
  have e2 : ((Tr.bin n x y).flat.take ((Tr.bin n x y).flat.length - 1)).drop ((x.flat.length : Int)).toNat = y.flat := by
    have : (Tr.bin n x y).flat = (x.flat ++ y.flat) ++ [n] := by simp [Tr.flat]
    rw [this, show ((x.flat ++ y.flat) ++ [n]).length - 1 = (x.flat ++ y.flat).length from by simp, List.take_left']
    · simp
    · rfl
  rw [e1, e2]
theorem un_parts {n : Node} {x : Tr} (hF : (Tr.un n x).Fit) : partsT (Tr.un n x).flat = some [x.flat] := by
  have ho : ofT (Tr.un n x).flat [] = some (startsR [Tr.un n x]) := ofT_tree _ [] hF
  have hs : startsR [Tr.un n x] = x.starts 0 ++ [0] := by simp [startsR, flatR, Tr.starts]
  have h1 : oneB (startsR [Tr.un n x]) = true := by
    rw [hs]
    unfold oneB
    refine decide_eq_true ⟨by simp, ?_⟩
    have := getD_right (a := x.starts 0) (b := [(0 : Int)]) (d := (0 : Int)) 0
    rw [show (x.starts 0 ++ [(0 : Int)]).length - 1 = (x.starts 0).length + 0 from by simp, this]
    rfl
  have hl := lastN_flat (Tr.un n x)
  unfold lastN at hl
  have ha : arityK n.kind = some 1 := hF.1
  unfold partsT
  simp only [ho, h1, hl, Tr.root, ha, Option.getD_some]
  rw [if_neg (by simp)]
  have e1 : (Tr.un n x).flat.take ((Tr.un n x).flat.length - 1) = x.flat := by
    show (x.flat ++ [n]).take ((x.flat ++ [n]).length - 1) = x.flat
    rw [show (x.flat ++ [n]).length - 1 = x.flat.length from by simp, List.take_left']
    rfl
  rw [e1]
theorem truth_row {n : Node} (h : truthK n.kind = true) (ha : ∃ a, arityK n.kind = some a) : decide (rowK n = 12) = !decide (0 < arI n.kind) := by
  have h6 : 6 ≤ n.kind := of_decide_eq_true h
  obtain ⟨k, op, nn, mm, sz, o, sd, ad, bt⟩ := n
  simp only at h6 ha ⊢
  rcases sixteen ha with rfl | rfl | rfl | rfl | rfl | rfl | rfl | rfl | rfl | rfl | rfl | rfl | rfl | rfl | rfl | rfl <;> first | omega | (simp [rowK, arI, arityK]; done)
theorem fit_arity : ∀ (t : Tr), t.Fit → ∃ a, arityK t.root.kind = some a
  | .leaf n, h => ⟨0, h⟩
  | .un n x, h => ⟨1, h.1⟩
  | .bin n x y, h => ⟨2, h.1⟩
theorem put_box {n : Node} {right : Bool} {x : Tr} (ht : truthK x.root.kind = true) (hF : x.Fit) : (putS (bareB true n right (rowK x.root)) (saidT true x)).1 = boxL x.root (saidT true x).1 := by
  have := truth_row ht (fit_arity x hF)
  unfold putS bareB boxL
  rw [if_pos rfl, this]
  by_cases h : 0 < arI x.root.kind
  · simp [h]
  · simp [h]
theorem put_deep (b : Bool) (s : Said) : s.2 ≤ (putS b s).2 := by
  unfold putS
  split <;> simp
/-- A part of a filter that is a truth: its own text. -/
theorem part_told {x : Tr} (hok : NodesOk x.flat) (hF : x.Fit) (hc : (checkT x.flat).2 = 0) (hd : (saidT true x).2 ≤ 200) : PartOk x.flat (saidT true x).1 ∧ truthK x.root.kind = true := by
  obtain ⟨u, hu, he, -, hfine, hlen⟩ := filter_fine hok hc
  have hl := said_len true x fun n hn => (hfine n hn).ok
  refine ⟨⟨hok, x.flat_pos, ?_, by omega⟩, ?_⟩
  · unfold toldL
    rw [if_neg (by simpa using hc), treeN_flat hF, if_neg (by omega)]
  · have := (check_ok hc).2.1
    have e := lastN_flat x
    unfold lastN at e
    rwa [e] at this
/-- The way of a filter whose root is and, or, not. -/
theorem full_parts {ns : List Node} (hok : NodesOk ns) (h0 : (toldL true ns).2 = 0) (hk : (lastN ns).kind = 7 ∨ (lastN ns).kind = 8 ∨ (lastN ns).kind = 9) :
    (∃ x u, (lastN ns).kind = 9 ∧ partsT ns = some [x] ∧ PartOk x u ∧ (toldL true ns).1 = [110, 111, 116, 32] ++ boxL (lastN x) u) ∨
    (∃ x u y v, ((lastN ns).kind = 7 ∨ (lastN ns).kind = 8) ∧ partsT ns = some [x, y] ∧ PartOk x u ∧ PartOk y v ∧ (toldL true ns).1 = boxL (lastN x) u ++ ((if (lastN ns).kind = 7 then [32, 97, 110, 100, 32] else [32, 111, 114, 32]) ++ boxL (lastN y) v)) := by
  have hc : (checkT ns).2 = 0 := by
    unfold toldL at h0
    by_cases hc : (checkT ns).2 ≠ 0
    · rw [if_pos hc] at h0; cases h0
    · simpa using hc
  obtain ⟨t, hF, rfl, -, hfine, -⟩ := filter_fine hok hc
  have hdeep : (saidT true t).2 ≤ 200 ∧ (toldL true t.flat).1 = (saidT true t).1 := by
    unfold toldL at h0 ⊢
    rw [if_neg (by simpa using hc), treeN_flat hF] at h0 ⊢
    by_cases hd : 200 < (saidT true t).2
    · rw [if_pos hd] at h0; cases h0
    · rw [if_neg hd]; exact ⟨by omega, rfl⟩
  obtain ⟨hd, htx⟩ := hdeep
  rw [lastN_flat] at hk ⊢
  rw [htx]
  have hsub : ∀ {x : Tr}, (∀ n ∈ x.flat, n ∈ t.flat) → x.flat.length ≤ t.flat.length → NodesOk x.flat := fun hm hl =>
    ⟨fun n hn => hok.bytes n (hm n hn), fun n hn => hok.u32 n (hm n hn), by have := hok.len; omega⟩
  cases t with
  | leaf n =>
    have ha : arityK n.kind = some 0 := hF
    simp only [Tr.root] at hk
    rcases hk with h | h | h <;> rw [h] at ha <;> cases ha
  | un n x =>
    have ha : arityK n.kind = some 1 := hF.1
    simp only [Tr.root] at hk
    have h9 : n.kind = 9 := by
      rcases hk with h | h | h
      · rw [h] at ha; cases ha
      · rw [h] at ha; cases ha
      · exact h
    have hp := un_parts hF
    have hcx := parts_check hp hc x.flat (by simp)
    have hl := lastN_flat (.un n x)
    unfold lastN at hl
    rw [hl] at hcx
    simp only [Tr.root, h9, wantsK] at hcx
    have hd2 : (saidT true x).2 ≤ 200 := by
      have h3 := put_deep (bareB true n true (rowK x.root)) (saidT true x)
      simp [saidT, h9] at hd
      omega
    obtain ⟨p1, p2⟩ := part_told (hsub (fun m hm => by simp [Tr.flat, hm]) (by simp [Tr.flat])) hF.2 (by simpa using hcx) hd2
    refine .inl ⟨x.flat, _, h9, hp, p1, ?_⟩
    rw [lastN_flat, ← put_box (n := n) (right := true) p2 hF.2]
    simp [saidT, h9]
  | bin n x y =>
    have ha : arityK n.kind = some 2 := hF.1
    simp only [Tr.root] at hk
    have h78 : n.kind = 7 ∨ n.kind = 8 := by
      rcases hk with h | h | h
      · exact .inl h
      · exact .inr h
      · rw [h] at ha; cases ha
    have hp := bin_parts hF
    have hcx := parts_check hp hc x.flat (by simp)
    have hcy := parts_check hp hc y.flat (by simp)
    have hl := lastN_flat (.bin n x y)
    unfold lastN at hl
    rw [hl] at hcx hcy
    have hw : wantsK n.kind = true := by rcases h78 with h | h <;> rw [h] <;> rfl
    simp only [Tr.root, hw, if_true] at hcx hcy
    have h3 := put_deep (bareB true n false (rowK x.root)) (saidT true x)
    have h4 := put_deep (bareB true n true (rowK y.root)) (saidT true y)
    simp only [saidT] at hd
    obtain ⟨p1, p2⟩ := part_told (hsub (fun m hm => by simp [Tr.flat, hm]) (by simp [Tr.flat])) hF.2.1 hcx (by omega)
    obtain ⟨q1, q2⟩ := part_told (hsub (fun m hm => by simp [Tr.flat, hm]) (by simp [Tr.flat]; omega)) hF.2.2 hcy (by omega)
    refine .inr ⟨x.flat, _, y.flat, _, h78, hp, p1, q1, ?_⟩
    rw [lastN_flat, lastN_flat, ← put_box (n := n) (right := false) p2 hF.2.1, ← put_box (n := n) (right := true) q2 hF.2.2]
    rcases h78 with h | h <;> simp [saidT, signL, h, Tr.root]
end Go.Proofs.YtffkaphbgfdpaaaGreatDoor
