/- A []api.Insn that came in. -/
import Derived.Test.YtckbcmoanadckaaDoorCard
import Derived.Deep.Slices
namespace Go.Proofs.YtckbcmoanadckaaDoor
open Go.ChangeShapes Go.WideShapes Go.RowKit Go.Shelf
set_option linter.unusedVariables false
set_option linter.unusedSimpArgs false

theorem flatG_split {α : Type} {enc : α → List Value} {k : Nat} (E : EncOk k enc) : ∀ (xs : List α) (n : Nat) (u : Value), (flatG enc xs)[n]? = some u → ∃ i j x, n = i * k + j ∧ xs[i]? = some x ∧ (enc x)[j]? = some u
  | [], n, u, h => by cases h
  | x :: xs, n, u, h => by
    have h : (enc x ++ flatG enc xs)[n]? = some u := h
    by_cases hn : n < k
    · rw [List.getElem?_append_left (by rw [E.len]; exact hn)] at h
      exact ⟨0, n, x, by omega, rfl, h⟩
    · rw [List.getElem?_append_right (by rw [E.len]; omega), E.len] at h
      obtain ⟨i, j, y, h1, h2, h3⟩ := flatG_split E xs _ u h
      exact ⟨i + 1, j, y, by rw [Nat.succ_mul]; omega, h2, h3⟩
section
variable {H : Type} {enc0 : TypeId × Value → H} {w : World} {base : Nat} {spare : Nat → Bool} {held : Bool}
/-- A []api.Insn that came in. -/
theorem open_insns {A : Option Addr} {len cap : Nat} {d : DataW H} {p : List MemPlace} (h : DataW.Trod enc0 Tryd.prog w base (fun _ => true) held 29 (.slice A len cap) d p) :
    ∃ ns : List Ins, ns.length = len ∧ Rs encN w A ns ∧ (∀ n ∈ ns, InsOk n) ∧ len ≤ cap ∧ (A = none → cap = 0) ∧
      (d = .nil ∧ cap = 0 ∨ ∃ es rs, d = .slice es rs ∧ es.length + rs.length = cap) := by
  obtain ⟨fuel, hf⟩ := h
  rcases Deep.open_slice Tryd.underlying29 hf with ⟨e, ex⟩ | ⟨a, l, c, m, n, D, Pl, e, hb, hl, hc, hm, ex, hel⟩
  · simp [Value.cells] at e
    obtain ⟨rfl, rfl, rfl⟩ := e
    exact ⟨[], rfl, Rs.nil, (fun n hn => by cases hn), Nat.le_refl _, fun _ => rfl, .inl ⟨congrArg Prod.fst ex, rfl⟩⟩
  · simp [Value.cells] at e
    obtain ⟨rfl, rfl, rfl⟩ := e
    simp only [if_true] at hm
    subst hm
    have hd : d = _ := congrArg Prod.fst ex
    rw [cellsN] at hel
    haveI : Inhabited Ins := ⟨⟨0, 0, 0, 0⟩⟩
    obtain ⟨N, hN⟩ := Deep.choose_lt (α := Ins) (n := len) (p := fun i nd => w.cells? base (a.add (i * 4)) 4 = some (encN nd) ∧ InsOk nd) (fun i hi => by
      obtain ⟨cs, h1, h2⟩ := hel i (by omega)
      obtain ⟨nd, rfl, hbt⟩ := ins_of_trod h2
      exact ⟨nd, h1, hbt⟩)
    refine ⟨(List.range len).map N, by simp, ?_, ?_, hl, (fun h => by cases h), .inr ⟨_, _, hd, by simp; omega⟩⟩
    · intro hp
      have hp : 0 < len := by simpa using hp
      obtain ⟨b, off, spot⟩ := a
      have h0 := World.cells?_some (hN 0 hp).1
      have hspot : spot = none := by
        have := h0.2.2 0 (by decide)
        simpa [Addr.add] using World.cell?_spot this
      subst hspot
      refine ⟨b, off, rfl, fun k u hu => ?_⟩
      obtain ⟨i, j, x, rfl, hx, hj⟩ := flatG_split encN_ok _ k u hu
      rw [List.getElem?_map] at hx
      obtain ⟨i', hi', rfl⟩ := Option.map_eq_some_iff.1 hx
      have hi : i < len := by
        have := (List.getElem?_eq_some_iff.1 hi').1
        simpa using this
      have hii : i' = i := by
        rw [List.getElem?_range hi] at hi'
        exact (Option.some.inj hi').symm
      subst hii
      obtain ⟨_, hlen, hc⟩ := World.cells?_some (hN i' hi).1
      have hjl := (List.getElem?_eq_some_iff.1 hj).1
      have hjl4 : j < 4 := hjl
      have := hc j hjl4
      rw [add_plain, add_plain] at this
      rw [show off + (i' * 4 + j) = off + i' * 4 + j from by omega, this, hj]
    · intro n hn
      obtain ⟨i, hi, rfl⟩ := List.mem_map.1 hn
      exact (hN i (by simpa using hi)).2
end
end Go.Proofs.YtckbcmoanadckaaDoor
