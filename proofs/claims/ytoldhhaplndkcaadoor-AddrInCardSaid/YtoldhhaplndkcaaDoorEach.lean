/- An address's groups, handed out one by one. -/
import Derived.Test.YtoldhhaplndkcaaDoorFmtU
import Derived.RangeFuncNested
import Derived.RangeFuncBound
import Derived.RangeFuncCalls
import Derived.RangeFuncLeaves
import Derived.RangeFuncMany
import Derived.RangeFuncFrom
import Derived.Shelf.Abstract
import Derived.Shelf.RegionOpen
import Derived.WalkKit
import Derived.OwnWalkIn
import Derived.TacticsInMore
import Derived.LoopNIn
import Derived.LoopIn
import Derived.Sort.LoopGhostIn
namespace Go.Proofs.YtoldhhaplndkcaaDoor
open Go.RowKit Go.Shelf Go.Deep
set_option linter.unusedVariables false
set_option linter.unusedSimpArgs false
attribute [local go_sem] Oper.semAt_some

theorem wraps_u16 (n : Int) (h₀ : 0 ≤ n) (h₁ : n < 2 ^ 16) : IntKind.u16.wrap n = n := by rw [IntKind.wrap_u16]; omega
theorem fin8_take (k : Nat) (h : k < 8) : (List.finRange 8).take (k + 1) = (List.finRange 8).take k ++ [⟨k, h⟩] := by
  rw [List.take_succ_eq_append_getElem (by rw [List.length_finRange]; exact h)]
  simp
/-- A block that stays. -/
def KeepB (B : Nat) (W W' : World) : Prop := W'.heap[B]? = W.heap[B]?
theorem keepB_t {B : Nat} {W1 W2 W3 : World} (h : KeepB B W1 W2) (k : KeepB B W2 W3) : KeepB B W1 W3 := Eq.trans k h
theorem keepB_b {B n : Nat} (hB : B < n) (W : World) (l : Nat) (o o' : Obj) (hl : n ≤ l) (_ : W.heap[l]? = some o) (_ : o.isCells = false) (_ : o.isWalk = false) : KeepB B W (W.putObj l o') :=
  World.putObj_heap_other (by omega)
def gv (gs : List Nat) (k : Fin 8) : Nat := gs.getD k.val 0
def ix8 (k : Fin 8) : Nat := k.val
def encE (gs : List Nat) (k : Fin 8) : Array Value := #[.int .i64 (ix8 k : Int), .int .u16 (gv gs k : Int)]
set_option maxRecDepth 100000 in
set_option maxHeartbeats 400000 in
theorem each_in (F : Fence) (n : Nat) (hF : F.fn 58) (hro : F.round = none) (hn : 1 ≤ n) (gs : List Nat) (h8 : gs.length = 8) (hg : ∀ g ∈ gs, g < 65536) (l Bs : Nat) (J Jx : List (Fin 8) → World → Prop) (W0 : Nat) (hJ : AbidesFrom W0 J)
    (hY : ∀ pre x W, J pre W → pre.length < 8 → YieldAt F (n - 1) Tryd.prog l (encE gs x) W fun e W' =>
      (e = .returned (.bool true) ∧ J (pre ++ [x]) W' ∧ KeepB Bs W W') ∨ (e = .returned (.bool false) ∧ Jx (pre ++ [x]) W'))
    (W : World) (hA : ArrAt T16 W Bs (bytesG gs)) (h0 : J [] W) :
    CallsIn F n Tryd.prog 58 #[.func (.yield l) #[] #[], .pointer (some ⟨Bs, 0, none⟩)] W fun e W' => (∃ v, e = .returned v) ∧
      ((∃ ys, ys = List.finRange 8 ∧ J ys W') ∨ (∃ pre, True ∧ Jx pre W')) := by
  obtain ⟨fnF, dF, aF, rF⟩ := F
  obtain rfl : rF = none := hro
  have HA := Lib.hid hA
  have HG := Lib.hid hg
  have H8 := Lib.hid h8
  clear hA hg h8
  refine callsIn_of_wp Tryd.func58 rfl hF ?_ rfl
  simp only [Tryd.ntmps58, List.size_toArray, List.length_cons, List.length_nil, Nat.reduceAdd, Nat.reduceSub, Array.replicate_succ, Array.replicate_zero, List.push_toArray, List.append_toArray, List.nil_append, List.cons_append]
  gi_wp2
  gi_loopg [3] 8 (fun g s3 wr => ∃ k : Nat, k + g = 8 ∧ s3 = .int .i64 k ∧ J ((List.finRange 8).take k) wr ∧ ArrAt T16 wr Bs (bytesG gs))
  case atStart => exact ⟨0, by omega, rfl, h0, HA.out⟩
  case round =>
    obtain ⟨k, hk, rfl, hJs, hB⟩ := hrel
    have k0 : (0 : Int) ≤ (k : Int) := by omega
    have HB := Lib.hid hB
    clear hB
    cases gk with
    | zero =>
      have k1 : ¬ (k : Int) < 8 := by omega
      have hk8 : k = 8 := by omega
      have hJ8 : J (List.finRange 8) wr := by
        rw [hk8, List.take_of_length_le (by simp)] at hJs
        exact hJs
      clear hk8 hk hJs
      gi_wp2
      go_end0
      exact ⟨⟨_, rfl⟩, .inl hJ8⟩
    | succ g =>
      have k1 : (k : Int) < 8 := by omega
      have k8 : k < 8 := by omega
      obtain ⟨fn, tmps, assign, body, hy, hR⟩ := hY _ ⟨k, k8⟩ wr.drew (hJ _ wr wr.drew none hJs ⟨rfl, rfl, rfl, Nat.le_refl _, fun _ _ _ => rfl⟩ (fun r h => by cases h)) (by rw [List.length_take]; simp; omega)
      obtain ⟨x, hx⟩ : ∃ x, gs[k]? = some x := ⟨_, List.getElem?_eq_getElem (by rw [H8.out]; exact k8)⟩
      have hx9 := HG.out x (List.mem_of_getElem? hx)
      have hgd : gs.getD k 0 = x := by rw [List.getD_eq_getElem?_getD, hx]; rfl
      unfold encE gv ix8 at hy
      dsimp only at hy
      rw [hgd] at hy
      have hbb := bytesG_get gs k x hx
      obtain ⟨p, hp⟩ : ∃ p, 2 * k = p := ⟨_, rfl⟩
      rw [hp] at hbb
      obtain ⟨a, ha⟩ : ∃ a : Nat, x / 256 = a := ⟨_, rfl⟩
      obtain ⟨b, hb2⟩ : ∃ b, x % 256 = b := ⟨_, rfl⟩
      rw [ha, hb2] at hbb
      have hc1 := HB.out.cell hbb.1
      have hc2 := HB.out.cell hbb.2
      have e1 : (2 : Int) * (k : Int) = (p : Int) := by omega
      have p0 : (0 : Int) ≤ (p : Int) := by omega
      have p1 : (p : Int) < 16 := by omega
      have p2 : (p : Int) + 1 < 16 := by omega
      have p3 : (0 : Int) ≤ (p : Int) + 1 := by omega
      have t9 : ((p : Int) + 1).toNat = p + 1 := by omega
      have a0 : (0 : Int) ≤ (a : Int) := by omega
      have a9 : (a : Int) ≤ 255 := by omega
      have b0 : (0 : Int) ≤ (b : Int) := by omega
      have b9 : (b : Int) ≤ 255 := by omega
      have hor : bits .or .u16 ((a : Int) * 256) (b : Int) = (x : Int) := by
        rw [bits_join .u16 16 (by decide) wraps_u16 8 ((a : Int) * 256) (b : Int) (by omega) (by omega) (by omega) (by omega) (by omega) (by omega)]
        omega
      have w1 : IntKind.u16.wrap ((a : Int) * 256) = (a : Int) * 256 := wraps_u16 _ (by omega) (by omega)
      have w5 : IntKind.u16.wrap (a : Int) = (a : Int) := wraps_u16 _ (by omega) (by omega)
      have w6 : IntKind.u16.wrap (b : Int) = (b : Int) := wraps_u16 _ (by omega) (by omega)
      have w2 : IntKind.i64.wrap ((p : Int)) = (p : Int) := IntWalk.i64_in _ (by omega)
      have w3 : IntKind.i64.wrap ((p : Int) + 1) = (p : Int) + 1 := IntWalk.i64_in _ (by omega)
      have w4 : IntKind.i64.wrap (2 * (k : Int)) = (p : Int) := by rw [e1]; exact w2
      have HX := Lib.hid (And.intro hk (And.intro hp (And.intro ha hb2)))
      clear hk hp ha hb2 hbb hx hx9 hgd
      gi_wp2
      have hR2 := hR.mono (R' := fun e W' => ∃ bv : Bool, e = .returned (.bool bv) ∧ Hid ((bv = true ∧ J ((List.finRange 8).take k ++ [⟨k, k8⟩]) W' ∧ KeepB Bs wr.drew W') ∨ (bv = false ∧ Jx ((List.finRange 8).take k ++ [⟨k, k8⟩]) W'))) (by
        rintro e W' (⟨rfl, h1, h2⟩ | ⟨rfl, h1⟩)
        · exact ⟨true, rfl, Lib.hid (.inl ⟨rfl, h1, h2⟩)⟩
        · exact ⟨false, rfl, Lib.hid (.inr ⟨rfl, h1⟩)⟩)
      clear hR
      gi_region_with (with_reducible refine hR2.mono ?_; clear hR2 hy hJ hY; rintro e W3 ⟨bv, rfl, hE⟩)
      all_goals
        cases bv
        · have hx1 : Jx ((List.finRange 8).take k ++ [⟨k, k8⟩]) W3 := by
            rcases hE.out with ⟨h, _⟩ | ⟨_, h⟩
            · cases h
            · exact h
          clear hE
          gi_wp2
          refine bodyPost_ret (results_none rfl _ _ _) rfl ?_
          exact ⟨⟨_, rfl⟩, .inr ⟨_, trivial, hx1⟩⟩
        · obtain ⟨hx1, hx2⟩ : J ((List.finRange 8).take k ++ [⟨k, k8⟩]) W3 ∧ KeepB Bs wr.drew W3 := by
            rcases hE.out with ⟨_, h⟩ | ⟨h, _⟩
            · exact h
            · cases h
          clear hE
          have HX2 := Lib.hid hx2
          have hx3 : J ((List.finRange 8).take (k + 1)) W3 := by rw [fin8_take k k8]; exact hx1
          clear hx1 hx2
          gi_wp2
          go_roundg g
          case measure => omega
          case rel => exact ⟨k + 1, by have := HX.out.1; omega, by go_num, hx3, HX2.out.trans HB.out⟩
theorem each_stops (F : Fence) (n : Nat) (hF : F.fn 58) (hro : F.round = none) (hn : 1 ≤ n) (gs : List Nat) (h8 : gs.length = 8) (hg : ∀ g ∈ gs, g < 65536) (Bs : Nat) (w : World) (hA : ArrAt T16 w Bs (bytesG gs)) :
    SeqStopsK F n Tryd.prog 58 #[.pointer (some ⟨Bs, 0, none⟩)] (encE gs) (KeepB Bs) (fun ys => ys = List.finRange 8) (fun _ => True) 8 w := fun l J Jx W hW hJ _ hY h0 =>
  each_in F n hF hro hn gs h8 hg l Bs J Jx W.heap.size hJ hY W (hA.later hW) h0
set_option maxRecDepth 100000 in
theorem each_any (gs : List Nat) (w : World) : Calls Tryd.prog 41 #[agg16 (bytesG gs)] w fun e w' => e = .returned (.func (.func 58) #[] #[.pointer (some ⟨w.heap.size, 0, none⟩)]) ∧ w.alloc (.cells (a16 (bytesG gs)) T16) = w' := by
  go_enter Tryd.func41, Tryd.ntmps41
  go_wp2_with fail
  go_ret
  exact ⟨rfl, rfl⟩
end Go.Proofs.YtoldhhaplndkcaaDoor
