/- An address's longest row of noughts. -/
import Derived.Test.YtoldhhaplndkcaaDoorEach
import Derived.Test.YtoldhhaplndkcaaDoorPr6L
namespace Go.Proofs.YtoldhhaplndkcaaDoor
open Go.RowKit Go.Shelf Go.Deep
set_option linter.unusedVariables false
set_option linter.unusedSimpArgs false
attribute [local go_sem] Oper.semAt_some

def ntF (gs : List Nat) (pre : List (Fin 8)) : Nt := pre.foldl (fun a x => stepN (ix8 x) (gv gs x == 0) a) ⟨0, 0, 0, 0⟩
theorem ntF_snoc (gs : List Nat) (pre : List (Fin 8)) (x : Fin 8) : ntF gs (pre ++ [x]) = stepN (ix8 x) (gv gs x == 0) (ntF gs pre) := by
  unfold ntF
  rw [List.foldl_append]
  rfl
def NtOk (k : Nat) (a : Nt) : Prop := a.nn ≤ k ∧ a.bn ≤ k ∧ a.ba ≤ 7 ∧ a.na ≤ 7 ∧ (a.nn = 0 → a.na = 0)
theorem ntOk_step {k i : Nat} {z : Bool} {a : Nt} (h : NtOk k a) (hi : i < 8) : NtOk (k + 1) (stepN i z a) := by
  obtain ⟨ba, bn, na, nn⟩ := a
  obtain ⟨h1, h2, h3, h4, h5⟩ := h
  simp only at h1 h2 h3 h4 h5
  cases z with
  | false => exact ⟨by show 0 ≤ _; omega, by show bn ≤ _; omega, h3, by show 0 ≤ _; omega, fun _ => rfl⟩
  | true =>
    have ha : (if na = 0 ∧ nn = 0 then i else na) ≤ 7 := by split <;> omega
    unfold stepN
    rw [if_pos rfl]
    dsimp only
    split
    · exact ⟨by show nn + 1 ≤ _; omega, by show nn + 1 ≤ _; omega, ha, ha, fun h => by simp at h⟩
    · exact ⟨by show nn + 1 ≤ _; omega, by show bn ≤ _; omega, h3, ha, fun h => by simp at h⟩
theorem ntF_take (gs : List Nat) (h8 : gs.length = 8) : ∀ k, k ≤ 8 → ntF gs ((List.finRange 8).take k) = gapN (flags gs) k ∧ NtOk k (ntF gs ((List.finRange 8).take k))
  | 0, _ => ⟨rfl, by unfold NtOk; simp [ntF]⟩
  | k + 1, h => by
    obtain ⟨e, ho⟩ := ntF_take gs h8 k (by omega)
    rw [fin8_take k (by omega), ntF_snoc]
    refine ⟨?_, ntOk_step ho (by show k < 8; omega)⟩
    show stepN k _ _ = stepN k ((flags gs).getD k false) _
    rw [e]
    congr 1
    unfold flags gv
    rw [List.getD_eq_getElem?_getD, List.getD_eq_getElem?_getD, List.getElem?_map, List.getElem?_eq_getElem (by omega)]
    rfl
theorem ntF_ok (gs : List Nat) (pre : List (Fin 8)) : NtOk pre.length (ntF gs pre) := by
  have h : ∀ (r : List (Fin 8)), NtOk r.reverse.length (ntF gs r.reverse) := fun r => by
    induction r with
    | nil => unfold NtOk; simp [ntF]
    | cons x l ih => rw [List.reverse_cons, ntF_snoc, List.length_append]; exact ntOk_step ih x.isLt
  have := h pre.reverse
  rwa [List.reverse_reverse] at this
/-- A block that is a row. -/
def Two (W : World) (b : Nat) (x y : Nat) : Prop := W.heap[b]? = some (.cells #[.int .i64 (x : Int), .int .i64 (y : Int)] 72 (0, 0))
section
variable {W W' : World} {b x y : Nat}
theorem Two.lt (h : Two W b x y) : b < W.heap.size := (Array.getElem?_eq_some_iff.1 h).1
theorem Two.new (W : World) (x y : Nat) : Two (W.alloc (.cells #[.int .i64 (x : Int), .int .i64 (y : Int)] 72)) W.heap.size x y := World.alloc_heap_new W _
theorem Two.old (h : Two W b x y) (o : Obj) : Two (W.alloc o) b x y := by
  unfold Two
  rw [Below.heap_alloc _ _ _ h.lt]
  exact h
theorem Two.cell0 (h : Two W b x y) : W.cell? ⟨b, 0, none⟩ = some (.int .i64 (x : Int)) := Lib.cell_of_heap h 0
theorem Two.cell1 (h : Two W b x y) : W.cell? ⟨b, 1, none⟩ = some (.int .i64 (y : Int)) := Lib.cell_of_heap h 1
theorem Two.frozen (h : Two W b x y) (j : Nat) : W.frozen? ⟨b, j, none⟩ = false := Lib.frozen_of_heap h j
theorem Two.set0 (h : Two W b x y) (u : Nat) : Two (W.setCell ⟨b, 0, none⟩ (.int .i64 (u : Int))) b u y := by
  have := heap_setCell_same W b 0 _ _ (.int .i64 (u : Int)) h
  exact this
theorem Two.set1 (h : Two W b x y) (u : Nat) : Two (W.setCell ⟨b, 1, none⟩ (.int .i64 (u : Int))) b x u := by
  have := heap_setCell_same W b 1 _ _ (.int .i64 (u : Int)) h
  exact this
theorem Two.set0z (h : Two W b x y) : Two (W.setCell ⟨b, 0, none⟩ (.int .i64 0)) b 0 y := h.set0 0
theorem Two.set1z (h : Two W b x y) : Two (W.setCell ⟨b, 1, none⟩ (.int .i64 0)) b x 0 := h.set1 0
theorem Two.other (h : Two W b x y) {c : Nat} (i : Nat) (v : Value) (hc : b ≠ c) : Two (W.setCell ⟨c, i, none⟩ v) b x y := by
  unfold Two
  rw [heap_setCell_other W ⟨c, i, none⟩ b v hc]
  exact h
theorem Two.kept {row : Option Nat} (h : Two W b x y) (hg : W.grownBy W' row) (hr : ∀ r, row = some r → ∃ o : Obj, W.heap[r]? = some o ∧ o.isCells = false) : Two W' b x y :=
  (grownBy_keeps_cells hg hr h rfl).trans h
end
theorem keepB_set {B b i : Nat} {W W' : World} (h : KeepB B W W') (hb : B ≠ b) (v : Value) : KeepB B W (W'.setCell ⟨b, i, none⟩ v) := (heap_setCell_other W' ⟨b, i, none⟩ B v hb).trans h
theorem keepO_set {b i : Nat} {W W' : World} (h : KeepsOthers W W') (v : Value) : KeepsOthers W (W'.setCell ⟨b, i, none⟩ v) := h.trans (KeepsOthers.setCell _ _ _)
set_option maxRecDepth 100000 in
set_option maxHeartbeats 3200000 in
theorem noughts_any (gs : List Nat) (w : World) (h8 : gs.length = 8) (hg : ∀ g ∈ gs, g < 65536) : Calls Tryd.prog 40 #[agg16 (bytesG gs)] w fun e w' => e = .returned (.agg #[.int .i64 ((gapP (flags gs)).1 : Nat), .int .i64 ((gapP (flags gs)).2 : Nat)]) ∧ Below w.heap.size w w' := by
  refine (callsIn_wide (n := 4)).1 ?_
  have hA := ArrAt.new T16 w (bytesG gs)
  have HA := Lib.hid hA
  have HG := Lib.hid hg
  have H8 := Lib.hid h8
  have hbl : (bytesG gs).length = 16 := by rw [bytesG_len]; omega
  have HL := Lib.hid hbl
  have ld := fun W (h : ArrAt T16 W w.heap.size (bytesG gs)) => run_loadA h hbl
  have LD := Lib.hid ld
  clear hg h8 hbl ld
  refine callsIn_of_wp_marks Tryd.func40 rfl trivial ?_ rfl
  simp only [Tryd.ntmps40, List.size_toArray, List.length_cons, List.length_nil, Nat.reduceAdd, Nat.reduceSub, Array.replicate_succ, Array.replicate_zero, List.push_toArray, List.append_toArray, List.nil_append, List.cons_append]
  have hA0 : ArrAt T16 (w.alloc (.cells (a16 (bytesG gs)) T16)) w.heap.size (bytesG gs) := hA
  have ld0 := LD.out _ (((hA0.old (.cells #[.int .i64 0, .int .i64 0] 72)).old (.cells #[.int .i64 0, .int .i64 0] 72)).old (.cells #[.int .i64 0, .int .i64 0] 72))
  clear hA hA0
  gi_wp2_with fail
  refine ⟨trivial, ?_⟩
  (with_reducible refine (callsIn_wide.2 (each_any gs _)).mono ?_)
  rintro e w1 ⟨rfl, rfl⟩
  clear ld0
  gi_wp2_with fail
  obtain ⟨W0, hW0⟩ : ∃ W0, ((((w.alloc (.cells (a16 (bytesG gs)) T16)).alloc (.cells #[.int .i64 0, .int .i64 0] 72)).alloc (.cells #[.int .i64 0, .int .i64 0] 72)).alloc (.cells #[.int .i64 0, .int .i64 0] 72)).alloc (.cells (a16 (bytesG gs)) T16) = W0 := ⟨_, rfl⟩
  rw [hW0]
  have hsz : W0.heap.size = w.heap.size + 5 := by rw [← hW0]; simp
  have hB0 : Below w.heap.size w W0 := by
    rw [← hW0]
    exact (((((Below.refl _ w).alloc (Nat.le_refl _) _).alloc (by simp) _).alloc (by simp; omega) _).alloc (by simp; omega) _).alloc (by simp; omega) _
  have hA1 : ArrAt T16 W0 (w.heap.size + 1 + 1 + 1 + 1) (bytesG gs) := by
    rw [← hW0]
    have := ArrAt.new T16 ((((w.alloc (.cells (a16 (bytesG gs)) T16)).alloc (.cells #[.int .i64 0, .int .i64 0] 72)).alloc (.cells #[.int .i64 0, .int .i64 0] 72)).alloc (.cells #[.int .i64 0, .int .i64 0] 72)) (bytesG gs)
    simp only [World.size_alloc] at this
    exact this
  have hT3 : Two W0 (w.heap.size + 1) 0 0 := by
    rw [← hW0]
    have := Two.new (w.alloc (.cells (a16 (bytesG gs)) T16)) 0 0
    simp only [World.size_alloc] at this
    exact ((this.old _).old _).old _
  have hT1 : Two W0 (w.heap.size + 1 + 1) 0 0 := by
    rw [← hW0]
    have := Two.new ((w.alloc (.cells (a16 (bytesG gs)) T16)).alloc (.cells #[.int .i64 0, .int .i64 0] 72)) 0 0
    simp only [World.size_alloc] at this
    exact (this.old _).old _
  have hT2 : Two W0 (w.heap.size + 1 + 1 + 1) 0 0 := by
    rw [← hW0]
    have := Two.new (((w.alloc (.cells (a16 (bytesG gs)) T16)).alloc (.cells #[.int .i64 0, .int .i64 0] 72)).alloc (.cells #[.int .i64 0, .int .i64 0] 72)) 0 0
    simp only [World.size_alloc] at this
    exact this.old _
  clear hW0
  refine wpIn_rangeFunc_ownF rfl (by omega) (gf := 58) (lb := #[.pointer (some ⟨w.heap.size + 1 + 1 + 1 + 1, 0, none⟩)]) rfl trivial (enters_of Tryd.func58 (by kernel_rfl) rfl)
    (each_stops Fence.wide _ trivial rfl (by omega) gs H8.out HG.out (w.heap.size + 1 + 1 + 1 + 1) W0 hA1) keepB_t (keepB_b (by omega)) (Below.refl _ _) (fun _ => rfl)
    (fun pre W => (Two W (w.heap.size + 1) 0 0 ∧ Two W (w.heap.size + 1 + 1) (ntF gs pre).ba (ntF gs pre).bn ∧ Two W (w.heap.size + 1 + 1 + 1) (ntF gs pre).na (ntF gs pre).nn) ∧ Below w.heap.size w W)
    (fun _ _ _ => False)
    (OwnFrom.and (Own.from (fun s A B row hs hg hr => ⟨hs.1.kept hg hr, hs.2.1.kept hg hr, hs.2.2.kept hg hr⟩) _) (ownFrom_below (Nat.le_refl _) (by omega)))
    (fun _ _ _ _ _ hs _ _ => hs)
    ⟨⟨hT3, hT1, hT2⟩, hB0⟩
    (fun x => { tmps := #[agg16 (bytesG gs), .pointer (some ⟨w.heap.size, 0, none⟩), .pointer (some ⟨w.heap.size + 1, 0, none⟩), .pointer (some ⟨w.heap.size + 1 + 1, 0, none⟩), .pointer (some ⟨w.heap.size + 1 + 1 + 1, 0, none⟩), .int .i64 (ix8 x : Int), .int .u16 (gv gs x : Int), agg16 (bytesG gs), .func (.func 58) #[] #[.pointer (some ⟨w.heap.size + 1 + 1 + 1 + 1, 0, none⟩)], .int .i64 (ix8 x : Int), .int .u16 (gv gs x : Int), undef, undef, undef, undef, undef, undef, undef, undef, undef, undef, undef, undef, undef, undef, undef, undef, undef, undef, undef, undef, undef, undef, undef], defers := [] }) ?assign ?body ?done ?stop
  case assign =>
    intro l x W K hK
    unfold encE
    gi_wp2
    exact hK
  case stop =>
    rintro D c pre W _ _ h _
    exact h.elim
  case body =>
    rintro l pre x W ⟨⟨hx0, hx1, hx2⟩, hB⟩ hlen
    obtain ⟨hn1, hn2, hn3, hn4, hn5⟩ := ntF_ok gs pre
    obtain ⟨na, hna⟩ : ∃ n, (ntF gs pre).na = n := ⟨_, rfl⟩
    obtain ⟨nn, hnn⟩ : ∃ n, (ntF gs pre).nn = n := ⟨_, rfl⟩
    obtain ⟨ba, hba⟩ : ∃ n, (ntF gs pre).ba = n := ⟨_, rfl⟩
    obtain ⟨bn, hbn⟩ : ∃ n, (ntF gs pre).bn = n := ⟨_, rfl⟩
    have hnt : ntF gs pre = ⟨ba, bn, na, nn⟩ := by rw [← hna, ← hnn, ← hba, ← hbn]
    rw [hna, hnn] at hx2
    rw [hba, hbn] at hx1
    rw [hnn] at hn1 hn5
    rw [hbn] at hn2
    rw [hba] at hn3
    rw [hna] at hn4 hn5
    clear hna hnn hba hbn
    obtain ⟨v, hv⟩ : ∃ v, gv gs x = v := ⟨_, rfl⟩
    obtain ⟨i, hi⟩ : ∃ i, ix8 x = i := ⟨_, rfl⟩
    have hi8 : i < 8 := by rw [← hi]; exact x.isLt
    have hst : ntF gs (pre ++ [x]) = stepN i (v == 0) ⟨ba, bn, na, nn⟩ := by rw [ntF_snoc, hv, hi, hnt]
    have HST := Lib.hid hst
    have c0 := hx1.cell0
    have c1 := hx1.cell1
    have d0 := hx2.cell0
    have d1 := hx2.cell1
    have f0 := hx1.frozen 0
    have f1 := hx1.frozen 1
    have g0 := hx2.frozen 0
    have g1 := hx2.frozen 1
    have HX := Lib.hid (And.intro hx0 (And.intro hx1 (And.intro hx2 hB)))
    clear hx0 hx1 hx2 hB hst hnt
    have v0 : (0 : Int) ≤ (v : Int) := by omega
    rw [hv, hi]
    clear hv hi
    by_cases hz : v = 0
    · have t1 : ((v : Int) != 0) = false := by rw [hz]; rfl
      have hvz : (v == 0) = true := by rw [hz]; rfl
      have HS := HST.out
      rw [hvz] at HS
      have HST := Lib.hid HS
      clear HS hz hvz
      by_cases hn0 : nn = 0
      · obtain rfl : na = 0 := hn5 hn0
        obtain rfl : nn = 0 := hn0
        clear hn5
        by_cases hb0 : bn = 0
        · obtain rfl : bn = 0 := hb0
          gi_wp2
          have hst : ntF gs (pre ++ [x]) = ⟨i, 1, i, 1⟩ := by
            rw [HST.out]
            simp [stepN]
          obtain ⟨hx0, hx1, hx2, hB⟩ := HX.out
          refine ⟨keepO_set (keepO_set (keepO_set (keepO_set (KeepsOthers.refl W) _) _) _) _, keepB_set (keepB_set (keepB_set (keepB_set ((rfl : KeepB _ W W)) (by omega) _) (by omega) _) (by omega) _) (by omega) _, ⟨((((hx0).other _ _ (by omega)).other _ _ (by omega)).other _ _ (by omega)).other _ _ (by omega), ?_, ?_⟩, ((((hB).setCell (p := ⟨w.heap.size + 1 + 1 + 1, 0, none⟩) (by show _ ≤ w.heap.size + 1 + 1 + 1; omega) _).setCell (p := ⟨w.heap.size + 1 + 1 + 1, 1, none⟩) (by show _ ≤ w.heap.size + 1 + 1 + 1; omega) _).setCell (p := ⟨w.heap.size + 1 + 1, 0, none⟩) (by show _ ≤ w.heap.size + 1 + 1; omega) _).setCell (p := ⟨w.heap.size + 1 + 1, 1, none⟩) (by show _ ≤ w.heap.size + 1 + 1; omega) _⟩
          · rw [hst]
            exact ((((hx1).other _ _ (by omega)).other _ _ (by omega)).set0 i).set1 1
          · rw [hst]
            exact ((((hx2).set0 i).set1 1).other _ _ (by omega)).other _ _ (by omega)
        · have b1 : ¬ (bn : Int) < 1 := by omega
          gi_wp2
          have hst : ntF gs (pre ++ [x]) = ⟨ba, bn, i, 1⟩ := by
            rw [HST.out]
            simp [stepN, hb0]
          obtain ⟨hx0, hx1, hx2, hB⟩ := HX.out
          refine ⟨keepO_set (keepO_set (KeepsOthers.refl W) _) _, keepB_set (keepB_set ((rfl : KeepB _ W W)) (by omega) _) (by omega) _, ⟨((hx0).other _ _ (by omega)).other _ _ (by omega), ?_, ?_⟩, ((hB).setCell (p := ⟨w.heap.size + 1 + 1 + 1, 0, none⟩) (by show _ ≤ w.heap.size + 1 + 1 + 1; omega) _).setCell (p := ⟨w.heap.size + 1 + 1 + 1, 1, none⟩) (by show _ ≤ w.heap.size + 1 + 1 + 1; omega) _⟩
          · rw [hst]
            exact ((hx1).other _ _ (by omega)).other _ _ (by omega)
          · rw [hst]
            exact ((hx2).set0 i).set1 1
      · have t2 : ¬ (nn : Int) = 0 := by omega
        have t3 : ((nn : Int) == 0) = false := by rw [beq_eq_false_iff_ne]; exact t2
        clear hn5
        by_cases hb0 : bn < nn + 1
        · have b1 : (bn : Int) < (nn : Int) + 1 := by omega
          gi_wp2
          have hst : ntF gs (pre ++ [x]) = ⟨na, nn + 1, na, nn + 1⟩ := by
            rw [HST.out]
            simp [stepN, hn0, hb0]
          obtain ⟨hx0, hx1, hx2, hB⟩ := HX.out
          refine ⟨keepO_set (keepO_set (keepO_set (KeepsOthers.refl W) _) _) _, keepB_set (keepB_set (keepB_set ((rfl : KeepB _ W W)) (by omega) _) (by omega) _) (by omega) _, ⟨(((hx0).other _ _ (by omega)).other _ _ (by omega)).other _ _ (by omega), ?_, ?_⟩, (((hB).setCell (p := ⟨w.heap.size + 1 + 1 + 1, 1, none⟩) (by show _ ≤ w.heap.size + 1 + 1 + 1; omega) _).setCell (p := ⟨w.heap.size + 1 + 1, 0, none⟩) (by show _ ≤ w.heap.size + 1 + 1; omega) _).setCell (p := ⟨w.heap.size + 1 + 1, 1, none⟩) (by show _ ≤ w.heap.size + 1 + 1; omega) _⟩
          · rw [hst]
            exact (((hx1).other _ _ (by omega)).set0 na).set1 (nn + 1)
          · rw [hst]
            exact (((hx2).set1 (nn + 1)).other _ _ (by omega)).other _ _ (by omega)
        · have b1 : ¬ (bn : Int) < (nn : Int) + 1 := by omega
          gi_wp2
          have hst : ntF gs (pre ++ [x]) = ⟨ba, bn, na, nn + 1⟩ := by
            rw [HST.out]
            simp [stepN, hn0, hb0]
          obtain ⟨hx0, hx1, hx2, hB⟩ := HX.out
          refine ⟨keepO_set (KeepsOthers.refl W) _, keepB_set ((rfl : KeepB _ W W)) (by omega) _, ⟨(hx0).other _ _ (by omega), ?_, ?_⟩, (hB).setCell (p := ⟨w.heap.size + 1 + 1 + 1, 1, none⟩) (by show _ ≤ w.heap.size + 1 + 1 + 1; omega) _⟩
          · rw [hst]
            exact (hx1).other _ _ (by omega)
          · rw [hst]
            exact (hx2).set1 (nn + 1)
    · have t1 : ((v : Int) != 0) = true := by
        rw [bne_iff_ne]
        omega
      have hvz : (v == 0) = false := by rw [beq_eq_false_iff_ne]; exact hz
      have HS := HST.out
      rw [hvz] at HS
      have HST := Lib.hid HS
      clear HS hz hvz
      gi_wp2
      have hst : ntF gs (pre ++ [x]) = ⟨ba, bn, 0, 0⟩ := by
        rw [HST.out]
        simp [stepN]
      obtain ⟨hx0, hx1, hx2, hB⟩ := HX.out
      refine ⟨keepO_set (keepO_set (KeepsOthers.refl W) _) _, keepB_set (keepB_set ((rfl : KeepB _ W W)) (by omega) _) (by omega) _, ⟨((hx0).other _ _ (by omega)).other _ _ (by omega), ?_, ?_⟩, ((hB).setCell (p := ⟨w.heap.size + 1 + 1 + 1, 0, none⟩) (by show _ ≤ w.heap.size + 1 + 1 + 1; omega) _).setCell (p := ⟨w.heap.size + 1 + 1 + 1, 1, none⟩) (by show _ ≤ w.heap.size + 1 + 1 + 1; omega) _⟩
      · rw [hst]
        exact ((hx1).other _ _ (by omega)).other _ _ (by omega)
      · rw [hst]
        exact ((hx2).set0 0).set1 0
  case done =>
    rintro D ys W hD rfl ⟨⟨hx0, hx1, hx2⟩, hB⟩ hK
    have hnt := (ntF_take gs H8.out 8 (Nat.le_refl _)).1
    rw [List.take_of_length_le (by simp)] at hnt
    have hok := ntF_ok gs (List.finRange 8)
    rw [hnt] at hx1 hx2 hok
    have hD2 : w.heap.size + 5 ≤ D := by omega
    clear hnt
    obtain ⟨ba, hba⟩ : ∃ n, (gapN (flags gs) 8).ba = n := ⟨_, rfl⟩
    obtain ⟨bn, hbn⟩ : ∃ n, (gapN (flags gs) 8).bn = n := ⟨_, rfl⟩
    rw [hba, hbn] at hx1
    have c1 := hx1.cell1
    have c0 := hx1.cell0
    have e0 := hx0.cell0
    have e1 := hx0.cell1
    have f0 := hx0.frozen 0
    have f1 := hx0.frozen 1
    by_cases hb : bn < 2
    · have b1 : (bn : Int) < 2 := by omega
      have hg : gapP (flags gs) = (0, 0) := by
        unfold gapP
        rw [hbn, if_pos hb]
      have HGP := Lib.hid (And.intro hx0 (And.intro hB hg))
      have HK := Lib.hid hK
      clear hg hx0 hx1 hx2 hB hK hok hba hbn hb
      gi_wp2
      obtain ⟨hx0, hB, hg⟩ := HGP.out
      have hK' := (keepO_set (i := 1) (b := w.heap.size + 1) (keepO_set (i := 0) (b := w.heap.size + 1) (KeepsOthers.refl W) (.int .i64 0)) (.int .i64 0)).same D _ HK.out rfl
      have hx9 := (hx0.set0z.set1z).kept (grownBy_putObj' _ D (.deferred none)) (fun r e => by cases e; exact ⟨_, hK', rfl⟩)
      refine ⟨by simp, .inl ⟨_, _, rfl, run_takeDeferred hK', ?_⟩⟩
      have d0 := hx9.cell0
      have d1 := hx9.cell1
      refine ⟨.agg #[.int .i64 (0 : Nat), .int .i64 (0 : Nat)], ?_, by rw [hg], ((hB.setCell (p := ⟨w.heap.size + 1, 0, none⟩) (by show _ ≤ w.heap.size + 1; omega) _).setCell (p := ⟨w.heap.size + 1, 1, none⟩) (by show _ ≤ w.heap.size + 1; omega) _).trans (belowK_b (w := w) (Nat.le_refl _) _ D _ _ (by omega) hK' rfl rfl)⟩
      simp [results, Tryd.f40, go_sem, d0, d1]
    · have b1 : ¬ (bn : Int) < 2 := by omega
      have hg : gapP (flags gs) = (ba, bn) := by
        unfold gapP
        rw [hbn, hba, if_neg hb]
      have HGP := Lib.hid (And.intro hx0 (And.intro hB hg))
      have HK := Lib.hid hK
      clear hg hx0 hx1 hx2 hB hK hok hba hbn hb
      gi_wp2
      obtain ⟨hx0, hB, hg⟩ := HGP.out
      have hK' := (keepO_set (i := 1) (b := w.heap.size + 1) (keepO_set (i := 0) (b := w.heap.size + 1) (KeepsOthers.refl W) (.int .i64 (ba : Nat))) (.int .i64 (bn : Nat))).same D _ HK.out rfl
      have hx9 := ((hx0.set0 ba).set1 bn).kept (grownBy_putObj' _ D (.deferred none)) (fun r e => by cases e; exact ⟨_, hK', rfl⟩)
      refine ⟨by simp, .inl ⟨_, _, rfl, run_takeDeferred hK', ?_⟩⟩
      have d0 := hx9.cell0
      have d1 := hx9.cell1
      refine ⟨.agg #[.int .i64 (ba : Nat), .int .i64 (bn : Nat)], ?_, by rw [hg], ((hB.setCell (p := ⟨w.heap.size + 1, 0, none⟩) (by show _ ≤ w.heap.size + 1; omega) _).setCell (p := ⟨w.heap.size + 1, 1, none⟩) (by show _ ≤ w.heap.size + 1; omega) _).trans (belowK_b (w := w) (Nat.le_refl _) _ D _ _ (by omega) hK' rfl rfl)⟩
      simp [results, Tryd.f40, go_sem, d0, d1]
end Go.Proofs.YtoldhhaplndkcaaDoor
