/- Filters, joined: plain. -/
import Derived.Test.YtedhlofmkehfkaaTrees
namespace Go.Proofs.Ytedhlofmkehfkaa
open Go.RowKit Go.Shelf
set_option linter.unusedVariables false
set_option linter.unusedSimpArgs false

theorem weightT_cons (n : Node) (ns : List Node) : weightT (n :: ns) = weightI n.kind n + weightT ns := by simp [weightT]
theorem weightT_append (a b : List Node) : weightT (a ++ b) = weightT a + weightT b := by simp [weightT]
theorem weigh_ok : ∀ (ns : List Node) (i s : Int), s + weightT ns ≤ 3000 → weighT ns i s = (0, 0)
  | [], i, s, h => rfl
  | n :: ns, i, s, h => by
    rw [weightT_cons] at h
    have h1 := (weightT_range ns).1
    unfold weighT
    rw [if_neg (by omega)]
    exact weigh_ok ns _ _ (by omega)
theorem weigh_no : ∀ (ns : List Node) (i s : Int), s ≤ 3000 → ¬ s + weightT ns ≤ 3000 → (weighT ns i s).2 = 126
  | [], i, s, h, hn => by simp [weightT] at hn; omega
  | n :: ns, i, s, h, hn => by
    rw [weightT_cons] at hn
    unfold weighT
    by_cases hg : s + weightI n.kind n > 3000
    · rw [if_pos hg]
    · rw [if_neg hg]
      exact weigh_no ns _ _ (by omega) (by omega)
theorem check_ok {ns : List Node} (h : (checkT ns).2 = 0) : (runT ns 0 [] []).2.1 = 0 ∧ truthK (ns.getD (ns.length - 1) Node.zero).kind = true ∧ weightT ns ≤ 3000 := by
  unfold checkT at h
  by_cases hc : (runT ns 0 [] []).2.1 ≠ 0
  · rw [if_pos hc] at h; exact absurd h hc
  · rw [if_neg hc] at h
    have hc0 : (runT ns 0 [] []).2.1 = 0 := by simpa using hc
    rw [root_truth hc0 (tree_of hc0).pos] at h
    by_cases ht : truthK (ns.getD (ns.length - 1) Node.zero).kind = false
    · rw [if_pos ht] at h; cases h
    · rw [if_neg ht] at h
      refine ⟨hc0, by simpa using ht, ?_⟩
      by_cases hw : (0 : Int) + weightT ns ≤ 3000
      · omega
      · have := weigh_no ns 0 0 (by omega) hw
        rw [this] at h; cases h
theorem check_tree {ns : List Node} {st : List Int} {ps : List Part} (h : Tree ns st ps) (ht : truthK (ns.getD (ns.length - 1) Node.zero).kind = true) : (checkT ns).2 = if weightT ns ≤ 3000 then 0 else 126 := by
  have hc := h.run 0
  have hc0 : (runT ns 0 [] []).2.1 = 0 := by rw [hc]
  unfold checkT
  rw [if_neg (by simp [hc0]), root_truth hc0 h.pos, ht, if_neg (by simp)]
  by_cases hw : weightT ns ≤ 3000
  · rw [if_pos hw, weigh_ok ns 0 0 (by omega)]
  · rw [if_neg hw]
    exact weigh_no ns 0 0 (by omega) (by omega)
theorem last_snoc (ns : List Node) (n : Node) : (ns ++ [n]).getD ((ns ++ [n]).length - 1) Node.zero = n := by
  simp [List.getD_eq_getElem?_getD]
theorem tree_snoc {ns : List Node} {n : Node} {st st2 : List Int} {ps ps2 : List Part} (hg : goT ns [] [] = some (st, ps)) (hs : stepT n st ps = (0, st2, ps2)) (hr : st2.getD ns.length 0 = 0) : Tree (ns ++ [n]) st2 ps2 := by
  have e : goT (ns ++ [n]) [] [] = some (st2, ps2) := by
    rw [go_append ns [n] _ _ _ _ hg, goT_cons, hs, if_neg (by simp)]
    rfl
  obtain ⟨h1, h2⟩ := go_len e
  refine ⟨e, go_starts StartsOk.nil e, by simpa using h1, by simpa using h2, by simp, ?_⟩
  rw [List.length_append]
  exact hr
theorem Tree.truth {ns : List Node} {st : List Int} {ps : List Part} (h : Tree ns st ps) : (ps.getD (ns.length - 1) Part.zero).truth = truthK (ns.getD (ns.length - 1) Node.zero).kind := by
  have hc := h.run 0
  have := root_truth (ns := ns) (by rw [hc]) h.pos
  rwa [hc] at this
theorem one_addL {a : List Node} {sa : List Int} {pa : List Part} (ha : Tree a sa pa) : addL sa 1 = some (sa ++ [0]) := by
  have hp := ha.pos
  have hl := ha.slen
  unfold addL
  have e : downs sa 1 sa.length = some 0 := by
    unfold downs
    rw [if_neg (by omega)]
    have e2 : ((sa.length : Nat) : Int).toNat - 1 = a.length - 1 := by omega
    rw [e2, ha.root]
    rfl
  rw [e]
  rfl
theorem one_kids {a : List Node} {sa : List Int} {pa : List Part} (ha : Tree a sa pa) : kidsL 1 sa pa = [pa.getD (a.length - 1) Part.zero] := by
  unfold kidsL
  rw [if_pos rfl, ha.slen]
theorem two_last {a b : List Node} {sa sb : List Int} {pa pb : List Part} (ha : Tree a sa pa) (hb : Tree b sb pb) : (sa ++ mv sa.length sb).getD ((sa ++ mv sa.length sb).length - 1) 0 = (sa.length : Int) := by
  have hp := hb.pos
  have hl := hb.slen
  have e : (sa ++ mv sa.length sb).length - 1 = sa.length + (b.length - 1) := by rw [List.length_append, mv_len]; omega
  rw [e, mv_get (by omega), hb.root]
  omega
theorem two_addL {a b : List Node} {sa sb : List Int} {pa pb : List Part} (ha : Tree a sa pa) (hb : Tree b sb pb) : addL (sa ++ mv sa.length sb) 2 = some (sa ++ mv sa.length sb ++ [0]) := by
  have hp := ha.pos
  have hl := ha.slen
  have h1 := two_last ha hb
  unfold addL
  have e : downs (sa ++ mv sa.length sb) 2 (sa ++ mv sa.length sb).length = some 0 := by
    unfold downs
    rw [if_neg (by rw [List.length_append]; omega)]
    have e2 : (((sa ++ mv sa.length sb).length : Nat) : Int).toNat - 1 = (sa ++ mv sa.length sb).length - 1 := by omega
    rw [e2, h1]
    unfold downs
    rw [if_neg (by omega)]
    have e3 : ((sa.length : Nat) : Int).toNat - 1 = a.length - 1 := by omega
    have e4 : (sa ++ mv sa.length sb).getD (a.length - 1) 0 = sa.getD (a.length - 1) 0 := by
      simp only [List.getD_eq_getElem?_getD]
      rw [List.getElem?_append_left (by omega)]
    rw [e3, e4, ha.root]
    rfl
  rw [e]
  rfl
theorem two_kids {a b : List Node} {sa sb : List Int} {pa pb : List Part} (ha : Tree a sa pa) (hb : Tree b sb pb) : kidsL 2 (sa ++ mv sa.length sb) (pa ++ pb) = [pa.getD (a.length - 1) Part.zero, pb.getD (b.length - 1) Part.zero] := by
  have hp := ha.pos
  have hpb := hb.pos
  have hl := ha.slen
  have hlb := hb.slen
  have hpa := ha.plen
  unfold kidsL
  rw [if_neg (by decide), if_pos rfl, two_last ha hb]
  have e1 : ((sa.length : Int) - 1).toNat = a.length - 1 := by omega
  have e2 : (sa ++ mv sa.length sb).length - 1 = pa.length + (b.length - 1) := by rw [List.length_append, mv_len]; omega
  rw [e1, e2, ps_get]
  congr 1
  simp only [List.getD_eq_getElem?_getD]
  rw [List.getElem?_append_left (by omega)]
/-- A node of a truth behind kids that are truths. -/
theorem made_joined {n : Node} {kids : List Part} (hk : n.kind = 7 ∨ n.kind = 8 ∨ n.kind = 9) (h : ∀ p ∈ kids, p.truth = true) : madeL n (truthK n.kind) (wantsK n.kind) kids = (⟨true, false, 0⟩, 0) := by
  have hw : wantsK n.kind = true := by rcases hk with e | e | e <;> rw [e] <;> rfl
  have ht : truthK n.kind = true := by rcases hk with e | e | e <;> rw [e] <;> rfl
  have hb : kidsBad true kids = false := by
    unfold kidsBad
    rw [List.any_eq_false]
    intro p hp
    simp [h p hp]
  rw [hw, ht]
  unfold madeL
  rw [hb, if_neg (by simp), if_neg (by omega), if_neg (by omega), if_neg (by omega)]
theorem made_apart {n : Node} {kids : List Part} (hk : n.kind = 4 ∨ n.kind = 5 ∨ n.kind = 6) {p : Part} (hp : p ∈ kids) (h : p.truth = true) : (madeL n (truthK n.kind) (wantsK n.kind) kids).2 = 122 := by
  have hw : wantsK n.kind = false := by rcases hk with e | e | e <;> rw [e] <;> rfl
  have hb : kidsBad false kids = true := by
    unfold kidsBad
    rw [List.any_eq_true]
    exact ⟨p, hp, by simp [h]⟩
  rw [hw]
  unfold madeL
  rw [hb, if_pos rfl]
  rfl
/-- A step that joins. -/
theorem step_joined {n : Node} {a : Nat} {st st2 : List Int} {ps : List Part} (hk : n.kind = 7 ∨ n.kind = 8 ∨ n.kind = 9) (ha : arityK n.kind = some a) (h2 : addL st a = some st2) (hu : unusedB n.kind n = true) (h : ∀ p ∈ kidsL a st ps, p.truth = true) :
    stepT n st ps = (0, st2, ps ++ [⟨true, false, 0⟩]) := by
  have hf : fitsB n.kind n = true := by rcases hk with e | e | e <;> rw [e] <;> rfl
  unfold stepT
  simp only [ha, h2, hu, made_joined hk h, hf]
  simp
  omega
theorem step_apart {n : Node} {a : Nat} {st st2 : List Int} {ps : List Part} (hk : n.kind = 4 ∨ n.kind = 5 ∨ n.kind = 6) (ha : arityK n.kind = some a) (h2 : addL st a = some st2) (hu : unusedB n.kind n = true) {p : Part} (hp : p ∈ kidsL a st ps) (h : p.truth = true) :
    stepT n st ps = (122, st, ps) := by
  unfold stepT
  simp only [ha, h2, hu, made_apart hk hp h]
  rfl
theorem check_err {ns : List Node} {n : Node} {st st2 : List Int} {ps ps2 : List Part} {c : Int} (hg : goT ns [] [] = some (st, ps)) (hs : stepT n st ps = (c, st2, ps2)) (hc : c ≠ 0) (more : List Node) : checkT (ns ++ n :: more) = ((ns.length : Int), c) := by
  have e : runT (ns ++ n :: more) 0 [] [] = ((ns.length : Int), c, st, ps) := by
    rw [run_of_go ns _ 0 _ _ _ _ hg, runT_cons, hs, if_pos hc]
    simp
  unfold checkT
  rw [e, if_pos hc]
theorem go_of_check {a : List Node} (ha : (checkT a).2 = 0) : ∃ sa pa, Tree a sa pa ∧ (pa.getD (a.length - 1) Part.zero).truth = true := by
  obtain ⟨h1, h2, _⟩ := check_ok ha
  refine ⟨_, _, tree_of h1, ?_⟩
  rw [(tree_of h1).truth]
  exact h2
theorem join_two {a b : List Node} (ha : (checkT a).2 = 0) (hb : (checkT b).2 = 0) {n : Node} (hk : n.kind = 7 ∨ n.kind = 8) (hu : unusedB n.kind n = true) : (checkT (a ++ b ++ [n])).2 = if weightT (a ++ b) < 3000 then 0 else 126 := by
  obtain ⟨sa, pa, hA, tA⟩ := go_of_check ha
  obtain ⟨sb, pb, hB, tB⟩ := go_of_check hb
  have hg := go_two hA hB
  have har : arityK n.kind = some 2 := by rcases hk with e | e <;> rw [e] <;> rfl
  have hs := step_joined (n := n) (by omega) har (two_addL hA hB) hu (ps := pa ++ pb) (by
    rw [two_kids hA hB]
    intro p hp
    simp only [List.mem_cons, List.not_mem_nil, or_false] at hp
    rcases hp with rfl | rfl
    · exact tA
    · exact tB)
  have hl : (sa ++ mv sa.length sb).length = (a ++ b).length := by rw [List.length_append, List.length_append, mv_len, hA.slen, hB.slen]
  have hT := tree_snoc hg hs (by rw [← hl]; simp [List.getD_eq_getElem?_getD])
  rw [check_tree hT (by rw [last_snoc]; rcases hk with e | e <;> rw [e] <;> rfl), weightT_append (a ++ b) [n]]
  have hw : weightT [n] = 1 := by rw [weightT_cons]; rcases hk with e | e <;> rw [e] <;> rfl
  rw [hw]
  by_cases h : weightT (a ++ b) < 3000
  · rw [if_pos h, if_pos (by omega)]
  · rw [if_neg h, if_neg (by omega)]
theorem join_two_no {a b : List Node} (ha : (checkT a).2 = 0) (hb : (checkT b).2 = 0) {n : Node} (hk : n.kind = 4 ∨ n.kind = 6) (hu : unusedB n.kind n = true) : checkT (a ++ b ++ [n]) = (((a ++ b).length : Int), 122) := by
  obtain ⟨sa, pa, hA, tA⟩ := go_of_check ha
  obtain ⟨sb, pb, hB, tB⟩ := go_of_check hb
  have har : arityK n.kind = some 2 := by rcases hk with e | e <;> rw [e] <;> rfl
  exact check_err (go_two hA hB) (step_apart (n := n) (by omega) har (two_addL hA hB) hu (by rw [two_kids hA hB]; exact List.mem_cons_self ..) tA) (by decide) []
theorem join_minus {a : List Node} (ha : (checkT a).2 = 0) : checkT (a ++ [Node.k0 5]) = ((a.length : Int), 122) := by
  obtain ⟨sa, pa, hA, tA⟩ := go_of_check ha
  exact check_err hA.go (step_apart (n := Node.k0 5) (.inr (.inl rfl)) (show arityK (Node.k0 5).kind = some 1 from rfl) (one_addL hA) (by kernel_rfl) (by rw [one_kids hA]; exact List.mem_cons_self ..) tA) (by decide) []
theorem join_not {a : List Node} (ha : (checkT a).2 = 0) : (checkT (a ++ [Node.k0 9])).2 = if weightT a < 3000 then 0 else 126 := by
  obtain ⟨sa, pa, hA, tA⟩ := go_of_check ha
  have hs := step_joined (n := Node.k0 9) (ps := pa) (.inr (.inr rfl)) (show arityK (Node.k0 9).kind = some 1 from rfl) (one_addL hA) (by kernel_rfl) (by
    rw [one_kids hA]
    intro p hp
    simp only [List.mem_cons, List.not_mem_nil, or_false] at hp
    rw [hp]
    exact tA)
  have hT := tree_snoc hA.go hs (by rw [← hA.slen]; simp [List.getD_eq_getElem?_getD])
  rw [check_tree hT (by rw [last_snoc]; rfl), weightT_append a [Node.k0 9]]
  have hw : weightT [Node.k0 9] = 1 := rfl
  rw [hw]
  by_cases h : weightT a < 3000
  · rw [if_pos h, if_pos (by omega)]
  · rw [if_neg h, if_neg (by omega)]
theorem pos_ite {c : Prop} [Decidable c] {a b : Int} (h1 : 1 ≤ a) (h2 : ¬ c → 1 ≤ b) : 1 ≤ (if c then a else b) := by
  by_cases hc : c
  · rw [if_pos hc]; exact h1
  · rw [if_neg hc]; exact h2 hc
theorem byI_pos {f s : Int} (hf : 1 ≤ f) (hs : 1 ≤ s) (n : Node) : 1 ≤ byI f s n := by
  unfold byI
  exact pos_ite hs fun _ => hf
theorem weightI_pos {n : Node} (h : ∃ a, arityK n.kind = some a) : 1 ≤ weightI n.kind n := by
  obtain ⟨a, ha⟩ := h
  obtain ⟨h1, h2, _⟩ := arityK_range ha
  unfold weightI
  iterate 13 (refine pos_ite (by decide) fun _ => ?_)
  refine pos_ite (byI_pos (by decide) (by decide) n) fun _ => pos_ite (byI_pos (by decide) (by decide) n) fun _ => pos_ite (by decide) fun _ => ?_
  omega
theorem len_le_weight : ∀ (ns : List Node), (∀ n ∈ ns, ∃ a, arityK n.kind = some a) → (ns.length : Int) ≤ weightT ns
  | [], h => by simp [weightT]
  | n :: ns, h => by
    have h1 := weightI_pos (h n (List.mem_cons_self ..))
    have h2 := len_le_weight ns fun m hm => h m (List.mem_cons_of_mem _ hm)
    rw [weightT_cons, List.length_cons]
    omega
/-- A filter is short. -/
theorem check_short {a : List Node} (ha : (checkT a).2 = 0) : a.length ≤ 3000 := by
  obtain ⟨h1, _, h3⟩ := check_ok ha
  have := len_le_weight a (runT_ok a 0 [] [] h1).1
  omega
end Go.Proofs.Ytedhlofmkehfkaa
