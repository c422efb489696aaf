/- The plain laws of numbers. -/
import Derived.Test.YtedhlofmkehfkaaChk2
import Derived.Test.YtedhlofmkehfkaaNs3
namespace Go.Proofs.Ytedhlofmkehfkaa
open Go.RowKit Go.Shelf
set_option linter.unusedVariables false
set_option linter.unusedSimpArgs false

/-- Two numbers and an operation. -/
def opsL (a b k : Int) : List Node := [Node.kn 1 a, Node.kn 1 b, Node.ko 4 k]
theorem onlyB_kn (k n : Int) : onlyB (fun x => { x with n := 0 }) (Node.kn k n) = true := by simp [onlyB, Node.kn, Node.zero]
theorem onlyB_ko (k o : Int) : onlyB (fun x => { x with op := 0 }) (Node.ko k o) = true := by simp [onlyB, Node.ko, Node.zero]
theorem onlyB_k0 (k : Int) : onlyB (fun x => x) (Node.k0 k) = true := by simp [onlyB, Node.k0, Node.zero]
theorem step_num (a : Int) (st : List Int) (ps : List Part) : stepT (Node.kn 1 a) st ps = (0, st ++ [(st.length : Int)], ps ++ [⟨false, true, a⟩]) := by
  have h1 : arityK (Node.kn 1 a).kind = some 0 := rfl
  have h2 : addL st 0 = some (st ++ [(st.length : Int)]) := rfl
  have h3 : unusedB (Node.kn 1 a).kind (Node.kn 1 a) = true := onlyB_kn 1 a
  simp only [stepT, h1, h2, h3]
  rfl
theorem step_len (st : List Int) (ps : List Part) : stepT (Node.k0 2) st ps = (0, st ++ [(st.length : Int)], ps ++ [⟨false, false, 0⟩]) := by
  have h1 : arityK (Node.k0 2).kind = some 0 := rfl
  have h2 : addL st 0 = some (st ++ [(st.length : Int)]) := rfl
  have h3 : unusedB (Node.k0 2).kind (Node.k0 2) = true := onlyB_k0 2
  simp only [stepT, h1, h2, h3]
  rfl
theorem unused_ko (k : Int) (h : 1 ≤ k ∧ k ≤ 10) : unusedB (Node.ko 4 k).kind (Node.ko 4 k) = true := by
  show (onlyB (fun x => { x with op := 0 }) (Node.ko 4 k) && inR (Node.ko 4 k).op 1 10) = true
  rw [onlyB_ko]
  show (true && (decide (1 ≤ k) && decide (k ≤ 10))) = true
  simp [h.1, h.2]
theorem made_ops (a b k : Int) (wa : Bool) : madeL (Node.ko 4 k) false false [⟨false, true, a⟩, ⟨false, true, b⟩] = if (k = 4 ∨ k = 5) ∧ b = 0 then (⟨false, false, 0⟩, 123) else (⟨false, true, reckon k a b⟩, 0) := by
  have hb : kidsBad false [⟨false, true, a⟩, ⟨false, true, b⟩] = false := rfl
  unfold madeL
  rw [hb]
  have h4 : (Node.ko 4 k).kind = 4 := rfl
  have ho : (Node.ko 4 k).op = k := rfl
  rw [h4, ho]
  simp
/-- The operation's step, behind its two numbers (with others ahead of them or none). -/
theorem step_ops (a b k : Int) (h : 1 ≤ k ∧ k ≤ 10) (st st2 : List Int) (ps : List Part) (h2 : addL st 2 = some st2) (h5 : kidsL 2 st ps = [⟨false, true, a⟩, ⟨false, true, b⟩]) :
    stepT (Node.ko 4 k) st ps = if (k = 4 ∨ k = 5) ∧ b = 0 then (123, st, ps) else (0, st2, ps ++ [⟨false, true, reckon k a b⟩]) := by
  have h1 : arityK (Node.ko 4 k).kind = some 2 := rfl
  have h3 := unused_ko k h
  have h6 : truthK (Node.ko 4 k).kind = false := rfl
  have h7 : wantsK (Node.ko 4 k).kind = false := rfl
  have h8 : fitsB (Node.ko 4 k).kind (Node.ko 4 k) = true := rfl
  have h9 : (Node.ko 4 k).kind = 4 := rfl
  simp only [stepT, h1, h2, h3, h5, h6, h7, h8, made_ops a b k false, Bool.true_eq_false, if_false]
  rw [h9]
  by_cases hz : (k = 4 ∨ k = 5) ∧ b = 0
  · simp [hz]
  · rw [if_neg hz]
    have hz2 : k = 4 ∨ k = 5 → ¬ b = 0 := fun h4 h5 => hz ⟨h4, h5⟩
    simpa using hz2
theorem step_neg (v : Int) (st st2 : List Int) (ps : List Part) (h2 : addL st 1 = some st2) (h5 : kidsL 1 st ps = [⟨false, true, v⟩]) :
    stepT (Node.k0 5) st ps = (0, st2, ps ++ [⟨false, true, -v % 4294967296⟩]) := by
  have h1 : arityK (Node.k0 5).kind = some 1 := rfl
  have h3 : unusedB (Node.k0 5).kind (Node.k0 5) = true := onlyB_k0 5
  simp only [stepT, h1, h2, h3, h5]
  rfl
theorem step_rel (x y : Part) (hx : x.truth = false) (hy : y.truth = false) (o : Int) (st st2 : List Int) (ps : List Part) (h2 : addL st 2 = some st2) (h5 : kidsL 2 st ps = [x, y]) (h3 : unusedB (Node.ko 6 o).kind (Node.ko 6 o) = true) :
    stepT (Node.ko 6 o) st ps = (0, st2, ps ++ [⟨true, false, 0⟩]) := by
  have h1 : arityK (Node.ko 6 o).kind = some 2 := rfl
  have hm : madeL (Node.ko 6 o) (truthK (Node.ko 6 o).kind) (wantsK (Node.ko 6 o).kind) [x, y] = (⟨true, false, 0⟩, 0) := by
    have hb : kidsBad (wantsK (Node.ko 6 o).kind) [x, y] = false := by
      show ([x, y].any fun p => p.truth != false) = false
      simp [hx, hy]
    unfold madeL
    rw [hb]
    rfl
  simp only [stepT, h1, h2, h3, h5, hm]
  rfl
def zeroOp (k b : Int) : Prop := (k = 4 ∨ k = 5) ∧ b = 0
instance (k b : Int) : Decidable (zeroOp k b) := by unfold zeroOp; infer_instance
theorem run_ops (a b k : Int) (h : 1 ≤ k ∧ k ≤ 10) (ns : List Node) (at_ : Int) (st st2 : List Int) (ps : List Part) (h2 : addL (st ++ [(st.length : Int)] ++ [((st.length + 1 : Nat) : Int)]) 2 = some st2)
    (h5 : kidsL 2 (st ++ [(st.length : Int)] ++ [((st.length + 1 : Nat) : Int)]) (ps ++ [⟨false, true, a⟩] ++ [⟨false, true, b⟩]) = [⟨false, true, a⟩, ⟨false, true, b⟩]) :
    runT (opsL a b k ++ ns) at_ st ps = if zeroOp k b then (at_ + 1 + 1, 123, st ++ [(st.length : Int)] ++ [((st.length + 1 : Nat) : Int)], ps ++ [⟨false, true, a⟩] ++ [⟨false, true, b⟩])
      else runT ns (at_ + 1 + 1 + 1) st2 (ps ++ [⟨false, true, a⟩] ++ [⟨false, true, b⟩] ++ [⟨false, true, reckon k a b⟩]) := by
  have s := step_ops a b k h _ _ _ h2 h5
  have hl : (st ++ [(st.length : Int)]).length = st.length + 1 := by simp
  show runT (Node.kn 1 a :: Node.kn 1 b :: Node.ko 4 k :: ns) at_ st ps = _
  rw [runT, step_num]
  show runT (Node.kn 1 b :: Node.ko 4 k :: ns) (at_ + 1) (st ++ [(st.length : Int)]) (ps ++ [⟨false, true, a⟩]) = _
  rw [runT, step_num, hl]
  show runT (Node.ko 4 k :: ns) (at_ + 1 + 1) (st ++ [(st.length : Int)] ++ [((st.length + 1 : Nat) : Int)]) (ps ++ [⟨false, true, a⟩] ++ [⟨false, true, b⟩]) = _
  by_cases hz : zeroOp k b
  · have hz2 : (k = 4 ∨ k = 5) ∧ b = 0 := hz
    rw [if_pos hz2] at s
    rw [runT, s, if_pos hz]
    rfl
  · have hz2 : ¬ ((k = 4 ∨ k = 5) ∧ b = 0) := hz
    rw [if_neg hz2] at s
    rw [runT, s, if_neg hz]
    rfl
theorem const_ops (a b k : Int) (h : 1 ≤ k ∧ k ≤ 10) : constT (opsL a b k) = if zeroOp k b then (0, false) else (reckon k a b, true) := by
  have e := run_ops a b k h [] 0 [] [0, 1, 0] [] rfl rfl
  rw [List.append_nil] at e
  unfold constT
  rw [e]
  by_cases hz : zeroOp k b
  · rw [if_pos hz, if_pos hz]; rfl
  · rw [if_neg hz, if_neg hz]; rfl
theorem const_minus (a b k : Int) (h : 1 ≤ k ∧ k ≤ 10) (hz : ¬ zeroOp k b) : constT (opsL a b k ++ [Node.k0 5]) = (-(reckon k a b) % 4294967296, true) := by
  have e := run_ops a b k h [Node.k0 5] 0 [] [0, 1, 0] [] rfl rfl
  rw [if_neg hz, runT, step_neg (reckon k a b) [0, 1, 0] [0, 1, 0, 0] _ rfl rfl] at e
  unfold constT
  rw [e]
  rfl
theorem const_len : constT [Node.k0 2] = (0, false) := by kernel_rfl
theorem check_ops (a b k : Int) (h : 1 ≤ k ∧ k ≤ 10) : checkT (Node.k0 2 :: (opsL a b k ++ [Node.ko 6 2])) = if zeroOp k b then (3, 123) else (0, 0) := by
  have e0 : runT (Node.k0 2 :: (opsL a b k ++ [Node.ko 6 2])) 0 [] [] = runT (opsL a b k ++ [Node.ko 6 2]) (0 + 1) [0] [⟨false, false, 0⟩] := by
    rw [runT, step_len]
    rfl
  have e := run_ops a b k h [Node.ko 6 2] (0 + 1) [0] [0, 1, 2, 1] [⟨false, false, 0⟩] rfl rfl
  rw [← e0] at e
  unfold checkT
  by_cases hz : zeroOp k b
  · rw [if_pos hz] at e ⊢
    rw [e]
    rfl
  · rw [if_neg hz] at e ⊢
    have e2 : ∀ i, runT [Node.ko 6 2] i [0, 1, 2, 1] ([⟨false, false, 0⟩] ++ [⟨false, true, a⟩] ++ [⟨false, true, b⟩] ++ [⟨false, true, reckon k a b⟩]) = (0, 0, [0, 1, 2, 1, 0], [⟨false, false, 0⟩] ++ [⟨false, true, a⟩] ++ [⟨false, true, b⟩] ++ [⟨false, true, reckon k a b⟩] ++ [⟨true, false, 0⟩]) := fun i => by
      rw [runT, step_rel ⟨false, false, 0⟩ ⟨false, true, reckon k a b⟩ rfl rfl 2 [0, 1, 2, 1] [0, 1, 2, 1, 0] _ rfl rfl (by kernel_rfl)]
      rfl
    rw [e2] at e
    rw [e]
    rfl
end Go.Proofs.Ytedhlofmkehfkaa
