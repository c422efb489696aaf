/- Appending nodes to a row of one's own. -/
import Derived.Test.YtedhlofmkehfkaaNs2
import Derived.Deep.RegionLaw
import Derived.Deep.CutBlock
import Derived.Deep.DeepCutAuto
namespace Go.Proofs.Ytedhlofmkehfkaa
open Go.RowKit Go.Shelf
set_option linter.unusedVariables false
set_option linter.unusedSimpArgs false

/-- A row of nodes, just built. -/
theorem own_new (w : World) (l : List Node) (hl : l.length ≤ 1000) : OwnN (w.alloc (.cells (flat l).toArray 40)) w.heap.size (.slice (some ⟨w.heap.size, 0, none⟩) l.length l.length) l :=
  ⟨flat_length l, .inr ⟨w.heap.size, l.length, (flat l).toArray, rfl, Nat.le_refl _, heap_alloc_new w _, Nat.le_refl _, by simp only [maxLen]; omega, by simp [flat_length], by
    rw [← flat_length]
    simp⟩⟩
theorem OwnN.is {w : World} {base g n c : Nat} {ns : List Node} (h : OwnN w base (.slice (some ⟨g, 0, none⟩) n c) ns) : Ns w (some ⟨g, 0, none⟩) ns := by
  obtain ⟨A, c', e, hN⟩ := h.ns
  cases e
  exact hN
theorem OwnN.capLe {w : World} {base g n c : Nat} {ns : List Node} (h : OwnN w base (.slice (some ⟨g, 0, none⟩) n c) ns) : ns.length ≤ c := own_cap h
section
variable {ops : Array Oper} {o : Oper} {a : Act} {Q : Exit → Act → World → Prop} {w : World}
theorem wp_app {K : Act → World → Prop} (hgd : o.guard = none) (s x : Operand)
    (ho : o.op = .call { callee := .builtin .append, args := #[s, x], argTypes := #[22, 22] })
    (base : Nat) (ns ms : List Node) (g n c : Nat) (hs : a.eval s = .slice (some ⟨g, 0, none⟩) n c) (hn : n = ns.length) (hown : OwnN w base (.slice (some ⟨g, 0, none⟩) n c) ns)
    (B : Option Addr) (m d : Nat) (hx : a.eval x = .slice B m d) (hm : m = ms.length) (hms : Ns w B ms) (hnil : B = none → d = 0)
    (hlen : ns.length + ms.length ≤ 1954687338260) (hbase : base ≤ w.heap.size)
    (h : ∀ g2 cap w', OwnN w' base (.slice (some ⟨g2, 0, none⟩) (n + m) cap) (ns ++ ms) → Below base w w' → w.grownBy w' (some g) → g2 < w'.heap.size → K (a.put o.dst (.slice (some ⟨g2, 0, none⟩) (n + m) cap)) w') : Oper.wp Try.prog o a w K Q := by
  subst hn
  subst hm
  obtain ⟨i0, hi0, hz0, hz1, hz2⟩ := info_parts nodeInfos
  have hlt := own_lt hown (b := g) rfl
  by_cases hp : 0 < ms.length
  · obtain ⟨b, off, rfl, hc⟩ := hms.cells hp
    refine wp_append_lies w s x 22 ho base 40 i0 (.agg (enc Node.zero)) 24 72 Try.underlying22 hi0 hz0 hz1 hz2 rfl (by decide) _ ns.length (flat ns) hs hown ⟨b, off, none⟩ ms.length d (flat ms) hx (flat_length ms) hc (flat_one ms) hp (by simp only [maxLen]; omega) (by omega) hbase w.heap.size rfl ?_
    intro g2 cap w' h1 h2 h3 h4
    refine h g2 cap w' ?_ ?_ h2 h4
    · unfold OwnN
      rw [List.length_append, flat_append]
      exact h1
    · exact (Below.refl base w).grown h2 hbase fun k e => by cases e; exact hlt.1
  · have hm0 : ms = [] := List.eq_nil_of_length_eq_zero (by omega)
    subst hm0
    have hr := run_append_empty (P := Try.prog) w 22 o.type 40 i0 Try.underlying22 hi0 g 0 ns.length c d B (own_cap hown) hnil
    have hx' : a.eval x = .slice B 0 d := hx
    unfold Oper.wp execOp
    simp only [ho, resolve, invoke, builtin, Sem.run_bind, Sem.run_pure, Result.andThen_ok, List.map_toArray, List.map_cons, List.map_nil, hs, hx', hr]
    exact h g c w (by simpa using hown) (Below.refl _ _) (World.grownBy.refl _ _) hlt.2
/-- At the list of a plain region's operations. -/
theorem wpList_app {rest : List Oper} (hgd : o.guard = none) (s x : Operand)
    (ho : o.op = .call { callee := .builtin .append, args := #[s, x], argTypes := #[22, 22] })
    (base : Nat) (ns ms : List Node) (g n c : Nat) (hs : a.eval s = .slice (some ⟨g, 0, none⟩) n c) (hn : n = ns.length) (hown : OwnN w base (.slice (some ⟨g, 0, none⟩) n c) ns)
    (B : Option Addr) (m d : Nat) (hx : a.eval x = .slice B m d) (hm : m = ms.length) (hms : Ns w B ms) (hnil : B = none → d = 0)
    (hlen : ns.length + ms.length ≤ 1954687338260) (hbase : base ≤ w.heap.size)
    (h : ∀ g2 cap w', OwnN w' base (.slice (some ⟨g2, 0, none⟩) (n + m) cap) (ns ++ ms) → Below base w w' → w.grownBy w' (some g) → g2 < w'.heap.size → wpList Try.prog ops Q rest (a.put o.dst (.slice (some ⟨g2, 0, none⟩) (n + m) cap)) w') : wpList Try.prog ops Q (o :: rest) a w :=
  wpList_plain hgd fun _ hK => wp_app hgd s x ho base ns ms g n c hs hn hown B m d hx hm hms hnil hlen hbase fun g2 cap w' h1 h2 h3 h4 => hK _ _ (h g2 cap w' h1 h2 h3 h4)
/-- At a step of a region that draws its order. -/
theorem step_app {K : Act → World → Prop} {E : Prop} (hgd : o.guard = none) (s x : Operand)
    (ho : o.op = .call { callee := .builtin .append, args := #[s, x], argTypes := #[22, 22] })
    (base : Nat) (ns ms : List Node) (g n c : Nat) (hs : a.eval s = .slice (some ⟨g, 0, none⟩) n c) (hn : n = ns.length) (hown : OwnN w base (.slice (some ⟨g, 0, none⟩) n c) ns)
    (B : Option Addr) (m d : Nat) (hx : a.eval x = .slice B m d) (hm : m = ms.length) (hms : Ns w B ms) (hnil : B = none → d = 0)
    (hlen : ns.length + ms.length ≤ 1954687338260) (hbase : base ≤ w.heap.size)
    (h : ∀ g2 cap w', OwnN w' base (.slice (some ⟨g2, 0, none⟩) (n + m) cap) (ns ++ ms) → Below base w w' → w.grownBy w' (some g) → g2 < w'.heap.size → K (a.put o.dst (.slice (some ⟨g2, 0, none⟩) (n + m) cap)) w') : 
    if Region.wanted o (yielded ops a.tmps) = true then Oper.wp Try.prog o a w K Q else E := by
  have hw : Region.wanted o (yielded ops a.tmps) = true := by simp [Region.wanted, hgd]
  rw [if_pos hw]
  exact wp_app hgd s x ho base ns ms g n c hs hn hown B m d hx hm hms hnil hlen hbase h
end
end Go.Proofs.Ytedhlofmkehfkaa
