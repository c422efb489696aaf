/- Slices of nodes, and what package riddlelaw0 does with them: copied, lent, looked at again, spoilt. -/
import Derived.Test.YtedhlofmkehfkaaTab
import Derived.Test.YtedhlofmkehfkaaTree
import Derived.Deep.AppendLies
import Derived.Deep.MidRow
import Derived.Maps.Range
namespace Go.Proofs.Ytedhlofmkehfkaa
open Go.RowKit Go.Shelf
set_option linter.unusedVariables false
set_option linter.unusedSimpArgs false

/-- A slice of nodes: the nodes lie in a row. -/
def Ns (w : World) (A : Option Addr) (ns : List Node) : Prop := 0 < ns.length → ∃ b o, A = some ⟨b, o, none⟩ ∧ ∀ i, i < ns.length → nodeAt w ⟨b, o + i * 24, none⟩ = some (ns.getD i Node.zero)
theorem Ns.later {w W : World} {A : Option Addr} {ns : List Node} (h : Ns w A ns) (hb : Below w.heap.size w W) : Ns W A ns := by
  intro hp
  obtain ⟨b, o, e, hn⟩ := h hp
  exact ⟨b, o, e, fun i hi => nodeAt_later hb (hn i hi)⟩
theorem Ns.nil {w : World} {A : Option Addr} : Ns w A [] := fun h => by cases h
def flat (ns : List Node) : List Value := ns.flatMap encL
theorem flat_length (ns : List Node) : (flat ns).length = ns.length * 24 := by
  unfold flat
  induction ns with
  | nil => rfl
  | cons n ns ih => rw [List.flatMap_cons, List.length_append, ih, List.length_cons, encL_length]; omega
theorem flat_cons (n : Node) (ns : List Node) : flat (n :: ns) = encL n ++ flat ns := rfl
theorem flat_append (a b : List Node) : flat (a ++ b) = flat a ++ flat b := List.flatMap_append
theorem flat_get {ns : List Node} {i j : Nat} {u : Value} (hi : i < ns.length) (hu : (encL (ns.getD i Node.zero))[j]? = some u) : (flat ns)[i * 24 + j]? = some u := by
  have hj : j < 24 := by
    have := (List.getElem?_eq_some_iff.1 hu).1
    rwa [encL_length] at this
  induction ns generalizing i with
  | nil => cases hi
  | cons n ns ih =>
    rw [flat_cons]
    cases i with
    | zero =>
      rw [List.getElem?_append_left (by rw [encL_length]; omega)]
      simpa using hu
    | succ i =>
      rw [List.getElem?_append_right (by rw [encL_length]; omega)]
      have e : (i + 1) * 24 + j - (encL n).length = i * 24 + j := by rw [encL_length]; omega
      rw [e]
      exact ih (by simpa using hi) (by simpa using hu)
theorem flat_split {ns : List Node} {k : Nat} {u : Value} (h : (flat ns)[k]? = some u) : ∃ i j, k = i * 24 + j ∧ i < ns.length ∧ (encL (ns.getD i Node.zero))[j]? = some u := by
  have hk := (List.getElem?_eq_some_iff.1 h).1
  rw [flat_length] at hk
  have hi : k / 24 < ns.length := by omega
  have hj : k % 24 < (encL (ns.getD (k / 24) Node.zero)).length := by rw [encL_length]; omega
  refine ⟨k / 24, k % 24, by omega, hi, ?_⟩
  have := flat_get hi (List.getElem?_eq_getElem hj)
  rw [show k / 24 * 24 + k % 24 = k from by omega, h] at this
  rw [List.getElem?_eq_getElem hj]
  exact this.symm
theorem encL_one (n : Node) : ∀ v ∈ encL n, v.oneCell' = true := by
  intro v hv
  have := enc_oneCell n
  exact (Array.all_eq_true_iff_forall_mem.1 this) v (by simpa [enc] using hv)
theorem flat_one (ns : List Node) : ∀ v ∈ flat ns, v.oneCell' = true := by
  intro v hv
  obtain ⟨n, _, h⟩ := List.mem_flatMap.1 hv
  exact encL_one n v h
/-- The cells of a slice of nodes. -/
theorem Ns.cells {w : World} {A : Option Addr} {ns : List Node} (h : Ns w A ns) (hp : 0 < ns.length) : ∃ b o, A = some ⟨b, o, none⟩ ∧ ∀ k u, (flat ns)[k]? = some u → w.cell? ((⟨b, o, none⟩ : Addr).add k) = some u := by
  obtain ⟨b, o, e, hn⟩ := h hp
  refine ⟨b, o, e, fun k u hu => ?_⟩
  obtain ⟨i, j, rfl, hi, hj⟩ := flat_split hu
  have := nodeIn_of (hn i hi) j u hj
  rw [add_plain] at this ⊢
  rwa [show o + (i * 24 + j) = o + i * 24 + j from by omega]
def OwnN (w : World) (base : Nat) (v : Value) (ns : List Node) : Prop := w.ownsRow base 40 24 v ns.length (flat ns)
theorem own_later {w W : World} {base sz n : Nat} {e : TypeId} {v : Value} {xs : List Value} (h : w.ownsRow base e sz v n xs) (hb : ∀ b, v.ownBlock = some b → W.heap[b]? = w.heap[b]?) : W.ownsRow base e sz v n xs := by
  refine ⟨h.1, ?_⟩
  rcases h.2 with h | ⟨g, cap, cur, rfl, h1, h2, h3⟩
  · exact .inl h
  · exact .inr ⟨g, cap, cur, rfl, h1, (hb g rfl).trans h2, h3⟩
theorem own_lt {w : World} {base sz n : Nat} {e : TypeId} {v : Value} {xs : List Value} (h : w.ownsRow base e sz v n xs) {b : Nat} (hb : v.ownBlock = some b) : base ≤ b ∧ b < w.heap.size := by
  rcases h.2 with ⟨rfl, h⟩ | ⟨g, cap, cur, rfl, h1, h2, h3⟩
  · cases hb
  · cases hb
    exact ⟨h1, (Array.getElem?_eq_some_iff.1 h2).1⟩
theorem OwnN.ns {w : World} {base : Nat} {v : Value} {ns : List Node} (h : OwnN w base v ns) : ∃ A c, v = .slice A ns.length c ∧ Ns w A ns := by
  have h0 := h
  rcases h.2 with ⟨rfl, e⟩ | ⟨g, cap, cur, rfl, hb, hh, _⟩
  · exact ⟨none, 0, by rw [e], fun hp => by omega⟩
  · refine ⟨_, _, rfl, fun hp => ⟨g, 0, rfl, fun i hi => nodeAt_of fun j u hu => ?_⟩⟩
    have := World.ownsRow.cells h0 (g := g) rfl (i * 24 + j) _ (flat_get hi hu)
    rw [add_plain] at this ⊢
    rwa [show 0 + i * 24 + j = 0 + (i * 24 + j) from by omega]
theorem getD_mem {ns : List Node} {i : Nat} (hi : i < ns.length) : ns.getD i Node.zero ∈ ns := by
  rw [List.getD_eq_getElem?_getD, List.getElem?_eq_getElem hi]
  exact List.getElem_mem hi
theorem nodeInfos : (Try.prog.info? 40).map (fun i => (i.zero, i.size, i.bytes)) = some (some (.agg (enc Node.zero)), 24, 72) := by kernel_rfl
theorem run_append_empty {P : Program} (w : World) (t ty e : TypeId) (i : TypeInfo) (ht : P.underlying t = some (.slice e)) (hi : P.info? e = some i) (b o n cap c : Nat) (A : Option Addr) (hn : n ≤ cap) (hA : A = none → c = 0) :
    (Builtin.append_ #[t, t] ty #[.slice (some ⟨b, o, none⟩) n cap, .slice A 0 c]).run P w = .ok (.slice (some ⟨b, o, none⟩) n cap) w := by
  cases A with
  | none => simp [Builtin.append_, run_underlying ht, sizeOf, typeInfo, hi, Builtin.lenOf, Builtin.firstCells, loadCells, loadCellsFrom, storeCells, hn]
  | some a => simp [Builtin.append_, run_underlying ht, sizeOf, typeInfo, hi, Builtin.lenOf, Builtin.firstCells, loadCells, loadCellsFrom, storeCells, hn]
theorem wpList_append_empty {P : Program} {ops : Array Oper} {rest : List Oper} {o : Oper} {a : Act} {Q : Exit → Act → World → Prop} (w : World) (hgd : o.guard = none) (s x : Operand) (t : TypeId)
    (ho : o.op = .call { callee := .builtin .append, args := #[s, x], argTypes := #[t, t] }) (e : TypeId) (i : TypeInfo) (ht : P.underlying t = some (.slice e)) (hi : P.info? e = some i) (b p n cap c : Nat) (A : Option Addr)
    (hs : a.eval s = .slice (some ⟨b, p, none⟩) n cap) (hx : a.eval x = .slice A 0 c) (hn : n ≤ cap) (hA : A = none → c = 0)
    (h : wpList P ops Q rest (a.put o.dst (.slice (some ⟨b, p, none⟩) n cap)) w) : wpList P ops Q (o :: rest) a w :=
  wpList_plain hgd fun _ hK => by
    have hr := run_append_empty (P := P) w t o.type e i ht hi b p n cap c A hn hA
    unfold Oper.wp execOp
    simp only [ho, resolve, invoke, builtin, Sem.run_bind, Sem.run_pure, Result.andThen_ok, List.map_toArray, List.map_cons, List.map_nil, hs, hx, hr]
    exact hK _ _ h
theorem copy_any (A : Option Addr) (c : Nat) (ns : List Node) (w : World) (hA : Ns w A ns) (hl : ns.length ≤ 1954687338260) (hnil : A = none → c = 0) :
    Calls Try.prog 22 #[.slice A ns.length c] w fun e w' => ∃ g c2, e = .returned (.slice (some ⟨g, 0, none⟩) ns.length c2) ∧ OwnN w' w.heap.size (.slice (some ⟨g, 0, none⟩) ns.length c2) ns ∧ Below w.heap.size w w' := by
  obtain ⟨i0, hi0, hz0, hz1, hz2⟩ := info_parts nodeInfos
  have Hz0 := Lib.hid hz0
  have Hz1 := Lib.hid hz1
  have Hz2 := Lib.hid hz2
  clear hz0 hz1 hz2
  have hB1 : Below w.heap.size w (w.alloc (.cells #[] 40)) := (Below.refl _ w).alloc (Nat.le_refl _) _
  have hown0 : (w.alloc (.cells #[] 40)).ownsRow w.heap.size 40 24 (.slice (some ⟨w.heap.size, 0, none⟩) 0 0) 0 [] := ⟨rfl, .inr ⟨w.heap.size, 0, #[], rfl, Nat.le_refl _, heap_alloc_new w _, Nat.le_refl _, Nat.zero_le _, rfl, rfl⟩⟩
  by_cases hp : 0 < ns.length
  · obtain ⟨b, o, rfl, hc⟩ := (hA.later hB1).cells hp
    have HC := Lib.hid hc
    have HO := Lib.hid hown0
    have HB := Lib.hid hB1
    clear hc hown0 hB1 hA
    go_enter Try.func22, Try.ntmps22
    go_wp2_with (at_builtin; refine wpList_append_lies _ rfl _ _ 22 rfl w.heap.size 40 i0 (.agg (enc Node.zero)) 24 72 Try.underlying22 hi0 Hz0.out Hz1.out Hz2.out rfl (by decide) (.slice (some ⟨w.heap.size, 0, none⟩) 0 0) 0 [] rfl HO.out ⟨b, o, none⟩ ns.length c (flat ns) rfl (flat_length ns) HC.out (flat_one ns) hp (by simp only [maxLen]; omega) (by omega) (by simp) (w.heap.size + 1) (by simp) ?_; intro g cap w2 hown hgrow hat hlt)
    go_ret
    rw [Nat.zero_add, List.nil_append] at hown
    exact ⟨g, cap, rfl, hown, HB.out.grown hgrow (by simp) (fun k e => by cases e; exact Nat.le_refl _)⟩
  · have he : ns = [] := by simpa using hp
    subst he
    have HO := Lib.hid hown0
    have HB := Lib.hid hB1
    clear hown0 hB1 hA
    go_enter Try.func22, Try.ntmps22
    go_wp2_with (at_builtin; refine wpList_append_empty _ rfl _ _ 22 rfl 40 i0 Try.underlying22 hi0 w.heap.size 0 0 0 c A rfl rfl (Nat.le_refl _) hnil ?_)
    go_ret
    exact ⟨_, _, rfl, HO.out, HB.out⟩

end Go.Proofs.Ytedhlofmkehfkaa
