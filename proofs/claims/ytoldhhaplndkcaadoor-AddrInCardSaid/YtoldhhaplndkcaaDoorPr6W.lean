/- The program's Print6. -/
import Derived.Test.YtoldhhaplndkcaaDoorNought
import Derived.Test.YtoldhhaplndkcaaDoorBuildK
import Derived.Test.YtoldhhaplndkcaaDoorFmtU
namespace Go.Proofs.YtoldhhaplndkcaaDoor
open Go.RowKit Go.Shelf Go.Deep
set_option linter.unusedVariables false
set_option linter.unusedSimpArgs false
attribute [local go_sem] Oper.semAt_some

def txF (gs : List Nat) (f l : Nat) (pre : List (Fin 8)) : List UInt8 := pre.foldl (fun a x => a ++ pieceP gs f l (ix8 x)) []
theorem txF_snoc (gs : List Nat) (f l : Nat) (pre : List (Fin 8)) (x : Fin 8) : txF gs f l (pre ++ [x]) = txF gs f l pre ++ pieceP gs f l (ix8 x) := by
  unfold txF
  rw [List.foldl_append]
  rfl
theorem piece_len (gs : List Nat) (f l i : Nat) : (pieceP gs f l i).length ≤ 5 := by
  have h := hexL_len (gs.getD i 0)
  unfold pieceP
  split
  · split <;> simp
  · rw [List.length_append]
    split
    · show 1 + _ ≤ 5
      omega
    · show 0 + _ ≤ 5
      omega
theorem txF_len (gs : List Nat) (f l : Nat) (pre : List (Fin 8)) : (txF gs f l pre).length ≤ 5 * pre.length := by
  have h : ∀ (r : List (Fin 8)), (txF gs f l r.reverse).length ≤ 5 * r.reverse.length := fun r => by
    induction r with
    | nil => exact Nat.le_refl _
    | cons x r ih =>
      have := piece_len gs f l (ix8 x)
      rw [List.reverse_cons, txF_snoc, List.length_append, List.length_append]
      simp only [List.length_singleton]
      omega
  have := h pre.reverse
  rwa [List.reverse_reverse] at this
theorem txF_take (gs : List Nat) (f l : Nat) : ∀ k, k ≤ 8 → txF gs f l ((List.finRange 8).take k) = txP gs f l k
  | 0, _ => rfl
  | k + 1, h => by
    rw [fin8_take k (by omega), txF_snoc, txF_take gs f l k (by omega)]
    rfl
theorem gap_cases (gs : List Nat) (h8 : gs.length = 8) : ∃ f l, gapP (flags gs) = (f, l) ∧ ((f = 0 ∧ l = 0) ∨ (2 ≤ l ∧ f + l ≤ 8)) ∧ txP gs f l 8 = print6L gs := by
  rcases gap_same (zs := flags gs) (by unfold flags; rw [List.length_map, h8]) with ⟨_, h⟩ | ⟨f, l, _, h, h2, h3⟩
  · refine ⟨0, 0, h, .inl ⟨rfl, rfl⟩, ?_⟩
    unfold print6L
    rw [h]
    exact txP_none gs h8
  · refine ⟨f, l, h, .inr ⟨h2, h3⟩, ?_⟩
    unfold print6L
    rw [h]
    exact txP_gap gs f l h8 h2 h3
theorem joinL_pos (c : UInt8) : ∀ (xs : List (List UInt8)), (∀ x ∈ xs, x ≠ []) → xs ≠ [] → joinL c xs ≠ []
  | [], _, h => absurd rfl h
  | [x], h, _ => by
    show x ≠ []
    exact h x (List.mem_cons_self ..)
  | x :: y :: zs, h, _ => by
    have := h x (List.mem_cons_self ..)
    intro e
    unfold joinL at e
    simp at e
theorem print6_pos (gs : List Nat) (h8 : gs.length = 8) : 0 < (print6L gs).length := by
  rw [List.length_pos_iff]
  unfold print6L textG
  split
  · refine joinL_pos 58 _ (fun x hx => ?_) (fun e => ?_)
    · obtain ⟨g, _, rfl⟩ := List.mem_map.1 hx
      exact hexL_pos g
    · have := congrArg List.length e
      rw [List.length_map, h8] at this
      cases this
  · simp
abbrev IsB (B b : Nat) (l : List UInt8) (w : World) : Prop := Lib.IsBuilder 76 5 B b (Lib.byteCells l) w
theorem Two.keepT {W W' : World} {b x y c : Nat} (h : Two W b x y) (k : KeepT c W W') (hb : b ≠ c) : Two W' b x y := (k.2 b _ _ h hb (by decide)).trans h
theorem ArrAt.keepT {W W' : World} {b c : Nat} {l : List Nat} (h : ArrAt T16 W b l) (k : KeepT c W W') (hb : b ≠ c) : ArrAt T16 W' b l := (k.2 b _ _ h hb (by decide)).trans h
/-- A round's way out. -/
theorem round_out {gs : List Nat} {f l B b3 b4 b5 : Nat} {pre : List (Fin 8)} {x : Fin 8} {w W W' : World} {t : List UInt8} (hp : txF gs f l (pre ++ [x]) = t) (k : KeepT b4 W W') (hA : ArrAt T16 W b5 (bytesG gs)) (h54 : b5 ≠ b4) (h3 : Two W b3 f l) (h34 : b3 ≠ b4) (hI : IsB B b4 t W') (hB : Below B w W') :
    KeepsOthers W W' ∧ KeepB b5 W W' ∧ (Two W' b3 f l ∧ IsB B b4 (txF gs f l (pre ++ [x])) W' ∧ ArrAt T16 W' b5 (bytesG gs)) ∧ Below B w W' :=
  ⟨k.1, k.2 b5 _ _ hA h54 (by decide), ⟨h3.keepT k h34, by rw [hp]; exact hI, hA.keepT k h54⟩, hB⟩

set_option maxRecDepth 100000 in
set_option maxHeartbeats 3200000 in
theorem print6_any (gs : List Nat) (w : World) (h8 : gs.length = 8) (hg : ∀ g ∈ gs, g < 65536) (hd : Deb w) : Calls Tryd.prog 16 #[agg16 (bytesG gs)] w fun e w' => e = .returned (.string (bs (print6L gs))) ∧ Below w.heap.size w w' := by
  refine (callsIn_wide (n := 5)).1 ?_
  have hA0 : ArrAt T16 (w.alloc (.cells (a16 (bytesG gs)) T16)) w.heap.size (bytesG gs) := ArrAt.new T16 w (bytesG gs)
  have HA := Lib.hid hA0
  have HG := Lib.hid hg
  have H8 := Lib.hid h8
  have HD := Lib.hid hd
  have hbl : (bytesG gs).length = 16 := by rw [bytesG_len]; omega
  have HL := Lib.hid hbl
  obtain ⟨f, l, hgap, hfl, htx⟩ := gap_cases gs h8
  have cn := fun W => noughts_any gs W h8 hg
  rw [hgap] at cn
  have CN := Lib.hid cn
  have HTX := Lib.hid htx
  have HFL := Lib.hid hfl
  have ld0 := run_loadA hA0 hbl
  clear hg h8 hd hbl hA0 hgap hfl htx cn
  refine callsIn_of_wp_marks Tryd.func16 rfl trivial ?_ rfl
  simp only [Tryd.ntmps16, List.size_toArray, List.length_cons, List.length_nil, Nat.reduceAdd, Nat.reduceSub, Array.replicate_succ, Array.replicate_zero, List.push_toArray, List.append_toArray, List.nil_append, List.cons_append]
  gi_wp2_with fail
  refine ⟨trivial, ?_⟩
  (with_reducible refine (callsIn_wide.2 (CN.out _)).mono ?_)
  rintro e w1 ⟨rfl, hB1⟩
  have hA1 : ArrAt T16 w1 w.heap.size (bytesG gs) := HA.out.later hB1
  have hB1' : Below w.heap.size w w1 := ((Below.refl _ w).alloc (Nat.le_refl _) _).trans (hB1.mono (by simp))
  have hs1 : w.heap.size < w1.heap.size := by have := hB1.size; simp at this; omega
  have HA1 := Lib.hid hA1
  have HB1 := Lib.hid hB1'
  clear ld0 hB1 hA1 hB1'
  have ld1 := run_loadA ((HA1.out.old (.cells #[.int .i64 (f : Int), .int .i64 (l : Int)] 72)).old (.cells #[.pointer none, .slice none 0 0] 76)) HL.out
  gi_wp2_with fail
  refine ⟨trivial, ?_⟩
  (with_reducible refine (callsIn_wide.2 (each_any gs _)).mono ?_)
  rintro e w2 ⟨rfl, rfl⟩
  clear ld1
  gi_wp2_with fail
  obtain ⟨W0, hW0⟩ : ∃ W0, ((w1.alloc (.cells #[.int .i64 (f : Int), .int .i64 (l : Int)] 72)).alloc (.cells #[.pointer none, .slice none 0 0] 76)).alloc (.cells (a16 (bytesG gs)) T16) = W0 := ⟨_, rfl⟩
  rw [hW0]
  have hsz : W0.heap.size = w1.heap.size + 3 := by rw [← hW0]; simp
  have hS := HB1.out.size
  have hB0 : Below w.heap.size w W0 := by
    rw [← hW0]
    exact ((HB1.out.alloc hS _).alloc (by simp; omega) _).alloc (by simp; omega) _
  have hT : Two W0 w1.heap.size f l := by
    rw [← hW0]
    exact ((Two.new w1 f l).old _).old _
  have hI : IsB w.heap.size (w1.heap.size + 1) [] W0 := by
    rw [← hW0]
    have := Lib.fresh_isBuilder 76 5 (w1.alloc (.cells #[.int .i64 (f : Int), .int .i64 (l : Int)] 72))
    rw [World.size_alloc] at this
    have h2 := isB_below this ((Below.refl _ _).alloc (Nat.le_refl _) (.cells (a16 (bytesG gs)) T16))
    refine h2.imp (fun h => ?_) (fun h => ?_)
    · exact ⟨by omega, h.2.choose, h.2.choose_spec.1, own_mono h.2.choose_spec.2.1 (by omega), h.2.choose_spec.2.2⟩
    · exact ⟨by omega, h.2.choose, h.2.choose_spec.1, own_mono h.2.choose_spec.2.1 (by omega), h.2.choose_spec.2.2⟩
  have hA2 : ArrAt T16 W0 (w1.heap.size + 1 + 1) (bytesG gs) := by
    rw [← hW0]
    have := ArrAt.new T16 ((w1.alloc (.cells #[.int .i64 (f : Int), .int .i64 (l : Int)] 72)).alloc (.cells #[.pointer none, .slice none 0 0] 76)) (bytesG gs)
    simp only [World.size_alloc] at this
    exact this
  clear hW0
  refine wpIn_rangeFunc_ownF rfl (by omega) (gf := 58) (lb := #[.pointer (some ⟨w1.heap.size + 1 + 1, 0, none⟩)]) rfl trivial (enters_of Tryd.func58 (by kernel_rfl) rfl)
    (each_stops Fence.wide _ trivial rfl (by omega) gs H8.out HG.out (w1.heap.size + 1 + 1) W0 hA2) keepB_t (keepB_b (by omega)) (Below.refl _ _) (fun _ => rfl)
    (fun pre W => (Two W w1.heap.size f l ∧ IsB w.heap.size (w1.heap.size + 1) (txF gs f l pre) W ∧ ArrAt T16 W (w1.heap.size + 1 + 1) (bytesG gs)) ∧ Below w.heap.size w W)
    (fun _ _ _ => False)
    (OwnFrom.and (Own.from (fun s A B row hs hg hr => ⟨hs.1.kept hg hr, isB_kept hs.2.1 hg hr, (grownBy_keeps_cells hg hr hs.2.2 rfl).trans hs.2.2⟩) _) (ownFrom_below (Nat.le_refl _) (by omega)))
    (fun _ _ _ _ _ hs _ _ => hs)
    ⟨⟨hT, hI, hA2⟩, hB0⟩
    (fun x => { tmps := #[agg16 (bytesG gs), .pointer (some ⟨w.heap.size, 0, none⟩), .string ⟨#[]⟩, .pointer (some ⟨w1.heap.size, 0, none⟩), .pointer (some ⟨w1.heap.size + 1, 0, none⟩), .int .i64 (ix8 x : Int), .int .u16 (gv gs x : Int), agg16 (bytesG gs), .agg #[.int .i64 (f : Int), .int .i64 (l : Int)], agg16 (bytesG gs), .func (.func 58) #[] #[.pointer (some ⟨w1.heap.size + 1 + 1, 0, none⟩)], .int .i64 (ix8 x : Int), .int .u16 (gv gs x : Int), undef, undef, undef, undef, undef, undef, undef, undef, undef, undef, undef, undef, undef, undef, undef, undef, undef, undef, undef, undef, undef, undef, undef, undef, undef, undef, undef, undef, undef, undef, undef, undef, undef, undef, undef, undef, undef, undef, undef, undef, undef, undef, undef, undef, undef], defers := [] }) ?assign ?body ?done ?stop
  case assign =>
    intro l x W K hK
    unfold encE
    gi_wp2
    exact hK
  case stop =>
    rintro D c pre W _ _ h _
    exact h.elim
  case done =>
    rintro D ys W hD rfl ⟨⟨hT2, hI2, hA3⟩, hB⟩ hK
    have ht := txF_take gs f l 8 (Nat.le_refl _)
    rw [List.take_of_length_le (by simp), HTX.out] at ht
    rw [ht] at hI2
    have hne : print6L gs ≠ [] := by
      intro e
      have := print6_pos gs H8.out
      rw [e] at this
      simp at this
    have HK := Lib.hid hK
    have HB := Lib.hid hB
    have HI := Lib.hid hI2
    have hwB : w.heap.size ≤ W.heap.size := hB.size
    have hD2 : w.heap.size ≤ D := by omega
    clear ht hT2 hA3 hB hK hI2
    gi_wp2_with fail
    refine ⟨trivial, ?_⟩
    refine (callsIn_wide.2 (stringK_any w.heap.size (w1.heap.size + 1) (print6L gs) W HI.out hne)).mono ?_
    rintro e w5 ⟨rfl, hB5, hk5⟩
    have HR := Lib.hid (And.intro hB5 hk5)
    clear hB5 hk5
    gi_wp2_with fail
    obtain ⟨hB5, hk5⟩ := HR.out
    have hK' := hk5.same D _ HK.out rfl
    refine ⟨by simp, .inl ⟨_, _, rfl, run_takeDeferred hK', ?_⟩⟩
    exact ⟨_, results_tmp rfl _ _ _, rfl, (HB.out.trans hB5).trans (belowK_b (w := w) (Nat.le_refl _) _ D _ _ hD2 hK' rfl rfl)⟩
  case body =>
    rintro lo pre x W ⟨⟨hT2, hI2, hA3⟩, hB⟩ hlen
    have hl5 := txF_len gs f l pre
    have hps := txF_snoc gs f l pre x
    obtain ⟨t, ht⟩ : ∃ t, txF gs f l pre = t := ⟨_, rfl⟩
    rw [ht] at hI2 hl5 hps
    obtain ⟨i, hi⟩ : ∃ i, ix8 x = i := ⟨_, rfl⟩
    have hi8 : i < 8 := by rw [← hi]; exact x.isLt
    obtain ⟨v, hv⟩ : ∃ v, gv gs x = v := ⟨_, rfl⟩
    have hv9 : v < 65536 := by
      rw [← hv]
      exact HG.out _ (by unfold gv; rw [List.getD_eq_getElem?_getD, List.getElem?_eq_getElem (by have := x.isLt; have := H8.out; omega)]; exact List.getElem_mem _)
    have hvi : gs.getD i 0 = v := by rw [← hv, ← hi]; rfl
    rw [hi] at hps
    rw [hv, hi]
    have hx5 := hexL_len v
    have bl : (bs (hexL v)).size = (hexL v).length := List.size_toArray
    have HPS := Lib.hid hps
    have HV := Lib.hid hvi
    have c0 := hT2.cell0
    have c1 := hT2.cell1
    have HT2 := Lib.hid hT2
    have HI2 := Lib.hid hI2
    have HA3 := Lib.hid hA3
    have HB := Lib.hid hB
    have hz : w1.heap.size + 1 < W.heap.size := by have := hA3.lt; omega
    have hw : w.heap.size ≤ W.heap.size := by omega
    have HBL := Lib.hid bl
    have i0 : (0 : Int) ≤ (i : Int) := by omega
    have v0 : (0 : Int) ≤ (v : Int) := by omega
    have v1 : (v : Int) ≤ 65535 := by omega
    clear ht hi hv hvi hps hT2 hI2 hA3 hB bl
    have hF := HFL.out
    by_cases hl0 : l = 0
    · have hf0 : f = 0 := by omega
      subst hl0
      subst hf0
      by_cases hi0 : i = 0
      · have j0 : ¬ (0 : Int) < (i : Int) := by omega
        gi_wp2_with fail
        refine ⟨trivial, ?_⟩
        refine (CallsIn.inRound lo (callsIn_wide.2 (fmt16_any v _ hv9 (HD.out.later HB.out)))).mono ?_
        rintro e w3 ⟨rfl, hB4⟩
        have HI4 := Lib.hid (isB_below HI2.out hB4)
        have HK4 := Lib.hid ((KeepT.refl _ W).trans (KeepT.below hB4) : KeepT (w1.heap.size + 1) W w3)
        have HB4 := Lib.hid (HB.out.trans (hB4.mono hw))
        have hw3 : w.heap.size ≤ w3.heap.size := HB4.out.size
        clear hB4
        gi_wp2_with fail
        refine ⟨trivial, ?_⟩
        refine (CallsIn.inRound lo (callsIn_wide.2 (writeStringK_any w.heap.size (w1.heap.size + 1) _ (bs (hexL v)) _ HI4.out (by simp [Lib.byteCells, HBL.out]; omega) hw3))).mono ?_
        rintro e w5 ⟨rfl, hI5, hB5, hk5⟩
        have HR := Lib.hid (And.intro hI5 (And.intro hB5 hk5))
        clear hI5 hB5 hk5
        gi_wp2_with fail
        obtain ⟨hI5, hB5, hk5⟩ := HR.out
        exact round_out (t := t ++ hexL v) (by rw [HPS.out, (show pieceP gs 0 0 i = hexL v from by unfold pieceP; rw [if_neg (by omega), if_neg (by omega), HV.out]; rfl)]) (HK4.out.trans hk5) HA3.out (by omega) HT2.out (by omega) (.inr (by unfold Lib.byteCells; rw [List.map_append]; exact hI5)) (HB4.out.trans hB5)
      · have j0 : (0 : Int) < (i : Int) := by omega
        gi_wp2_with fail
        refine ⟨trivial, ?_⟩
        refine (CallsIn.inRound lo (callsIn_wide.2 (writeByteK_any w.heap.size (w1.heap.size + 1) _ 58 W HI2.out (by simp [Lib.byteCells]; omega) hw))).mono ?_
        rintro e w2 ⟨rfl, hI3, hB3, hk3⟩
        have HI3 : Hid (IsB w.heap.size (w1.heap.size + 1) (t ++ [58]) w2) := Lib.hid (.inr (by unfold Lib.byteCells; rw [List.map_append]; exact hI3))
        have HB3 := Lib.hid (HB.out.trans hB3)
        have HK3 := Lib.hid hk3
        have hw2 : w.heap.size ≤ w2.heap.size := HB3.out.size
        clear hI3 hB3 hk3
        gi_wp2_with fail
        refine ⟨trivial, ?_⟩
        refine (CallsIn.inRound lo (callsIn_wide.2 (fmt16_any v _ hv9 (HD.out.later HB3.out)))).mono ?_
        rintro e w3 ⟨rfl, hB4⟩
        have HI4 := Lib.hid (isB_below HI3.out hB4)
        have HK4 := Lib.hid (HK3.out.trans (KeepT.below hB4) : KeepT (w1.heap.size + 1) W w3)
        have HB4 := Lib.hid (HB3.out.trans (hB4.mono hw2))
        have hw3 : w.heap.size ≤ w3.heap.size := HB4.out.size
        clear hB4
        gi_wp2_with fail
        refine ⟨trivial, ?_⟩
        refine (CallsIn.inRound lo (callsIn_wide.2 (writeStringK_any w.heap.size (w1.heap.size + 1) _ (bs (hexL v)) _ HI4.out (by simp [Lib.byteCells, HBL.out]; omega) hw3))).mono ?_
        rintro e w5 ⟨rfl, hI5, hB5, hk5⟩
        have HR := Lib.hid (And.intro hI5 (And.intro hB5 hk5))
        clear hI5 hB5 hk5
        gi_wp2_with fail
        obtain ⟨hI5, hB5, hk5⟩ := HR.out
        exact round_out (t := (t ++ [58]) ++ hexL v) (by rw [HPS.out, (show pieceP gs 0 0 i = [58] ++ hexL v from by unfold pieceP; rw [if_neg (by omega), if_pos (by omega), HV.out])]; simp) (HK4.out.trans hk5) HA3.out (by omega) HT2.out (by omega) (.inr (by unfold Lib.byteCells; rw [List.map_append]; exact hI5)) (HB4.out.trans hB5)
    · have hl1 : ¬ (l : Int) = 0 := by omega
      have hl2 : ((l : Int) == 0) = false := by rw [beq_eq_false_iff_ne]; exact hl1
      have l0 : (0 : Int) ≤ (l : Int) := by omega
      have l8 : (l : Int) ≤ 8 := by omega
      have f0 : (0 : Int) ≤ (f : Int) := by omega
      have f8 : (f : Int) ≤ 8 := by omega
      have HL0 := Lib.hid (And.intro hl0 hF)
      by_cases hfi : f ≤ i
      · have j1 : (f : Int) ≤ (i : Int) := by omega
        by_cases hil : i < f + l
        · have j2 : (i : Int) < (f : Int) + (l : Int) := by omega
          by_cases hif : i = f
          · have j3 : ((i : Int) == (f : Int)) = true := by rw [hif]; exact beq_self_eq_true _
            have hpp : pieceP gs f l i = [58, 58] := by unfold pieceP; rw [if_pos ⟨hl0, hfi, hil⟩, if_pos hif]
            have HPP := Lib.hid hpp
            clear hif hl0 hpp hF
            gi_wp2_with fail
            refine ⟨trivial, ?_⟩
            refine (CallsIn.inRound lo (callsIn_wide.2 (writeStringK_any w.heap.size (w1.heap.size + 1) _ ⟨#[58, 58]⟩ W HI2.out (by have h2 : (⟨#[58, 58]⟩ : ByteArray).size = 2 := rfl; rw [h2]; simp [Lib.byteCells]; omega) hw))).mono ?_
            rintro e w2 ⟨rfl, hI3, hB3, hk3⟩
            have HR := Lib.hid (And.intro hI3 (And.intro hB3 hk3))
            clear hI3 hB3 hk3
            gi_wp2_with fail
            obtain ⟨hI3, hB3, hk3⟩ := HR.out
            exact round_out (t := t ++ [58, 58]) (by rw [HPS.out, HPP.out]) hk3 HA3.out (by omega) HT2.out (by omega) (.inr (by unfold Lib.byteCells; rw [List.map_append]; exact hI3)) (HB.out.trans hB3)
          · have j3 : ((i : Int) == (f : Int)) = false := by rw [beq_eq_false_iff_ne]; omega
            have hpp : pieceP gs f l i = [] := by unfold pieceP; rw [if_pos ⟨hl0, hfi, hil⟩, if_neg hif]
            have HPP := Lib.hid hpp
            clear hif hl0 hpp hF
            gi_wp2_with fail
            exact round_out (t := t) (by rw [HPS.out, HPP.out, List.append_nil]) (KeepT.refl _ _) HA3.out (by omega) HT2.out (by omega) HI2.out HB.out
        · have j2 : ¬ (i : Int) < (f : Int) + (l : Int) := by omega
          have j0 : (0 : Int) < (i : Int) := by omega
          by_cases hie : i = f + l
          · have j4 : ((i : Int) != (f : Int) + (l : Int)) = false := by rw [bne_eq_false_iff_eq]; omega
            have hpp : pieceP gs f l i = hexL v := by unfold pieceP; rw [if_neg (by omega), if_neg (by omega), HV.out]; rfl
            have HPP := Lib.hid hpp
            clear hie hl0 hpp hF
            gi_wp2_with fail
            refine ⟨trivial, ?_⟩
            refine (CallsIn.inRound lo (callsIn_wide.2 (fmt16_any v _ hv9 (HD.out.later HB.out)))).mono ?_
            rintro e w3 ⟨rfl, hB4⟩
            have HI4 := Lib.hid (isB_below HI2.out hB4)
            have HK4 := Lib.hid ((KeepT.refl _ W).trans (KeepT.below hB4) : KeepT (w1.heap.size + 1) W w3)
            have HB4 := Lib.hid (HB.out.trans (hB4.mono hw))
            have hw3 : w.heap.size ≤ w3.heap.size := HB4.out.size
            clear hB4
            gi_wp2_with fail
            refine ⟨trivial, ?_⟩
            refine (CallsIn.inRound lo (callsIn_wide.2 (writeStringK_any w.heap.size (w1.heap.size + 1) _ (bs (hexL v)) _ HI4.out (by simp [Lib.byteCells, HBL.out]; omega) hw3))).mono ?_
            rintro e w5 ⟨rfl, hI5, hB5, hk5⟩
            have HR := Lib.hid (And.intro hI5 (And.intro hB5 hk5))
            clear hI5 hB5 hk5
            gi_wp2_with fail
            obtain ⟨hI5, hB5, hk5⟩ := HR.out
            exact round_out (t := t ++ hexL v) (by rw [HPS.out, HPP.out]) (HK4.out.trans hk5) HA3.out (by omega) HT2.out (by omega) (.inr (by unfold Lib.byteCells; rw [List.map_append]; exact hI5)) (HB4.out.trans hB5)
          · have j4 : ((i : Int) != (f : Int) + (l : Int)) = true := by rw [bne_iff_ne]; omega
            have hpp : pieceP gs f l i = [58] ++ hexL v := by unfold pieceP; rw [if_neg (by omega), if_pos (by omega), HV.out]
            have HPP := Lib.hid hpp
            clear hie hl0 hpp hF
            gi_wp2_with fail
            refine ⟨trivial, ?_⟩
            refine (CallsIn.inRound lo (callsIn_wide.2 (writeByteK_any w.heap.size (w1.heap.size + 1) _ 58 W HI2.out (by simp [Lib.byteCells]; omega) hw))).mono ?_
            rintro e w2 ⟨rfl, hI3, hB3, hk3⟩
            have HI3 : Hid (IsB w.heap.size (w1.heap.size + 1) (t ++ [58]) w2) := Lib.hid (.inr (by unfold Lib.byteCells; rw [List.map_append]; exact hI3))
            have HB3 := Lib.hid (HB.out.trans hB3)
            have HK3 := Lib.hid hk3
            have hw2 : w.heap.size ≤ w2.heap.size := HB3.out.size
            clear hI3 hB3 hk3
            gi_wp2_with fail
            refine ⟨trivial, ?_⟩
            refine (CallsIn.inRound lo (callsIn_wide.2 (fmt16_any v _ hv9 (HD.out.later HB3.out)))).mono ?_
            rintro e w3 ⟨rfl, hB4⟩
            have HI4 := Lib.hid (isB_below HI3.out hB4)
            have HK4 := Lib.hid (HK3.out.trans (KeepT.below hB4) : KeepT (w1.heap.size + 1) W w3)
            have HB4 := Lib.hid (HB3.out.trans (hB4.mono hw2))
            have hw3 : w.heap.size ≤ w3.heap.size := HB4.out.size
            clear hB4
            gi_wp2_with fail
            refine ⟨trivial, ?_⟩
            refine (CallsIn.inRound lo (callsIn_wide.2 (writeStringK_any w.heap.size (w1.heap.size + 1) _ (bs (hexL v)) _ HI4.out (by simp [Lib.byteCells, HBL.out]; omega) hw3))).mono ?_
            rintro e w5 ⟨rfl, hI5, hB5, hk5⟩
            have HR := Lib.hid (And.intro hI5 (And.intro hB5 hk5))
            clear hI5 hB5 hk5
            gi_wp2_with fail
            obtain ⟨hI5, hB5, hk5⟩ := HR.out
            exact round_out (t := (t ++ [58]) ++ hexL v) (by rw [HPS.out, HPP.out]; simp) (HK4.out.trans hk5) HA3.out (by omega) HT2.out (by omega) (.inr (by unfold Lib.byteCells; rw [List.map_append]; exact hI5)) (HB4.out.trans hB5)
      · have j1 : ¬ (f : Int) ≤ (i : Int) := by omega
        by_cases hi0 : i = 0
        · have j0 : ¬ (0 : Int) < (i : Int) := by omega
          have hpp : pieceP gs f l i = hexL v := by unfold pieceP; rw [if_neg (by omega), if_neg (by omega), HV.out]; rfl
          have HPP := Lib.hid hpp
          clear hi0 hl0 hpp hF
          gi_wp2_with fail
          refine ⟨trivial, ?_⟩
          refine (CallsIn.inRound lo (callsIn_wide.2 (fmt16_any v _ hv9 (HD.out.later HB.out)))).mono ?_
          rintro e w3 ⟨rfl, hB4⟩
          have HI4 := Lib.hid (isB_below HI2.out hB4)
          have HK4 := Lib.hid ((KeepT.refl _ W).trans (KeepT.below hB4) : KeepT (w1.heap.size + 1) W w3)
          have HB4 := Lib.hid (HB.out.trans (hB4.mono hw))
          have hw3 : w.heap.size ≤ w3.heap.size := HB4.out.size
          clear hB4
          gi_wp2_with fail
          refine ⟨trivial, ?_⟩
          refine (CallsIn.inRound lo (callsIn_wide.2 (writeStringK_any w.heap.size (w1.heap.size + 1) _ (bs (hexL v)) _ HI4.out (by simp [Lib.byteCells, HBL.out]; omega) hw3))).mono ?_
          rintro e w5 ⟨rfl, hI5, hB5, hk5⟩
          have HR := Lib.hid (And.intro hI5 (And.intro hB5 hk5))
          clear hI5 hB5 hk5
          gi_wp2_with fail
          obtain ⟨hI5, hB5, hk5⟩ := HR.out
          exact round_out (t := t ++ hexL v) (by rw [HPS.out, HPP.out]) (HK4.out.trans hk5) HA3.out (by omega) HT2.out (by omega) (.inr (by unfold Lib.byteCells; rw [List.map_append]; exact hI5)) (HB4.out.trans hB5)
        · have j0 : (0 : Int) < (i : Int) := by omega
          have j4 : ((i : Int) != (f : Int) + (l : Int)) = true := by rw [bne_iff_ne]; omega
          have hpp : pieceP gs f l i = [58] ++ hexL v := by unfold pieceP; rw [if_neg (by omega), if_pos (by omega), HV.out]
          have HPP := Lib.hid hpp
          clear hi0 hl0 hpp hF
          gi_wp2_with fail
          refine ⟨trivial, ?_⟩
          refine (CallsIn.inRound lo (callsIn_wide.2 (writeByteK_any w.heap.size (w1.heap.size + 1) _ 58 W HI2.out (by simp [Lib.byteCells]; omega) hw))).mono ?_
          rintro e w2 ⟨rfl, hI3, hB3, hk3⟩
          have HI3 : Hid (IsB w.heap.size (w1.heap.size + 1) (t ++ [58]) w2) := Lib.hid (.inr (by unfold Lib.byteCells; rw [List.map_append]; exact hI3))
          have HB3 := Lib.hid (HB.out.trans hB3)
          have HK3 := Lib.hid hk3
          have hw2 : w.heap.size ≤ w2.heap.size := HB3.out.size
          clear hI3 hB3 hk3
          gi_wp2_with fail
          refine ⟨trivial, ?_⟩
          refine (CallsIn.inRound lo (callsIn_wide.2 (fmt16_any v _ hv9 (HD.out.later HB3.out)))).mono ?_
          rintro e w3 ⟨rfl, hB4⟩
          have HI4 := Lib.hid (isB_below HI3.out hB4)
          have HK4 := Lib.hid (HK3.out.trans (KeepT.below hB4) : KeepT (w1.heap.size + 1) W w3)
          have HB4 := Lib.hid (HB3.out.trans (hB4.mono hw2))
          have hw3 : w.heap.size ≤ w3.heap.size := HB4.out.size
          clear hB4
          gi_wp2_with fail
          refine ⟨trivial, ?_⟩
          refine (CallsIn.inRound lo (callsIn_wide.2 (writeStringK_any w.heap.size (w1.heap.size + 1) _ (bs (hexL v)) _ HI4.out (by simp [Lib.byteCells, HBL.out]; omega) hw3))).mono ?_
          rintro e w5 ⟨rfl, hI5, hB5, hk5⟩
          have HR := Lib.hid (And.intro hI5 (And.intro hB5 hk5))
          clear hI5 hB5 hk5
          gi_wp2_with fail
          obtain ⟨hI5, hB5, hk5⟩ := HR.out
          exact round_out (t := (t ++ [58]) ++ hexL v) (by rw [HPS.out, HPP.out]; simp) (HK4.out.trans hk5) HA3.out (by omega) HT2.out (by omega) (.inr (by unfold Lib.byteCells; rw [List.map_append]; exact hI5)) (HB4.out.trans hB5)
end Go.Proofs.YtoldhhaplndkcaaDoor
