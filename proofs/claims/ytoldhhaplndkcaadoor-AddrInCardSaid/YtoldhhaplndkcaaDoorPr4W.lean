/- addr.Print4. -/
import Derived.Test.YtoldhhaplndkcaaDoorPr4
namespace Go.Proofs.YtoldhhaplndkcaaDoor
open Go.RowKit Go.Shelf Go.Deep
set_option linter.unusedVariables false
set_option linter.unusedSimpArgs false

theorem join_eq (c : UInt8) : ∀ (xs : List (List UInt8)), Lib.join xs [c] = joinL c xs
  | [] => rfl
  | [x] => Lib.join_one x [c]
  | x :: y :: r => by
    have ih := join_eq c (y :: r)
    show List.intercalate [c] (x :: y :: r) = x ++ c :: joinL c (y :: r)
    rw [← ih]
    show List.intercalate [c] (x :: y :: r) = x ++ c :: List.intercalate [c] (y :: r)
    simp [List.intercalate, List.intersperse]
theorem own_cell {w : World} {base n c : Nat} {A : Option Addr} {xs : List ByteArray} (h : OwnG 1 encB 9 w base (.slice A n c) xs) {g o : Nat} (hA : A = some ⟨g, o, none⟩) : ∀ (j : Nat) x, xs[j]? = some x → w.cell? ⟨g, o + j, none⟩ = some (.string x) := by
  intro j x hj
  obtain ⟨A', c', e, hr⟩ := OwnG.rs encB_ok h
  cases e
  subst hA
  have := hr.cell encB_ok hj (j := 0) rfl
  simpa only [Nat.mul_one, Nat.add_zero] using this
theorem join_any (sep : UInt8) (xs : List ByteArray) (A : Option Addr) (c base : Nat) (w : World) (h : OwnG 1 encB 9 w base (.slice A xs.length c) xs) (hp : 0 < xs.length) (hl : xs.length ≤ 140737488355328) (hz : (joinL sep (ls xs)).length ≤ 140737488355328) :
    Calls Tryd.prog 34 #[.slice A xs.length c, .string ⟨#[sep]⟩] w fun e w' => e = .returned (.string (bs (joinL sep (ls xs)))) ∧ Below w.heap.size w w' := by
  obtain ⟨g, c', e, hb, hlt, hc⟩ := h.form hp
  cases e
  have hj : Lib.join (xs.map (·.data.toList)) (⟨#[sep]⟩ : ByteArray).data.toList = joinL sep (ls xs) := join_eq sep (ls xs)
  have := Tryd.strings_Join g 0 c xs ⟨#[sep]⟩ w (own_cell h rfl) hlt hl hc (by rw [hj]; exact hz)
  rw [hj] at this
  exact this
set_option maxRecDepth 100000 in
set_option maxHeartbeats 3200000 in
theorem print4_any (l : List Nat) (w : World) (h4 : l.length = 4) (hl : ∀ x ∈ l, x ≤ 255) (ht : Tab10 w) : Calls Tryd.prog 11 #[agg4 l] w fun e w' => e = .returned (.string (bs (print4L l))) ∧ Below w.heap.size w w' := by
  obtain ⟨a, b, c, d, rfl⟩ := four_of h4
  obtain ⟨i0, hi0, hz0, hz1, hz2⟩ := info_parts infoStr
  have Hi0 := Lib.hid hi0
  have Hz0 := Lib.hid hz0
  have Hz1 := Lib.hid hz1
  have Hz2 := Lib.hid hz2
  have hbox := ArrAt.new 22 w [a, b, c, d]
  have hB0 : Below w.heap.size w (w.alloc (.cells ([a, b, c, d].map c8).toArray 22)) := (Below.refl _ w).alloc (Nat.le_refl _) _
  have Hbox := Lib.hid hbox
  have HB0 := Lib.hid hB0
  have Hl := Lib.hid hl
  have HT := Lib.hid ht
  have ix : ∀ (k x : Nat), [a, b, c, d][k]? = some x → ∀ W, (Instr.index 22 (.agg #[.int .u8 a, .int .u8 b, .int .u8 c, .int .u8 d]) (.int .i64 (k : Int))).run Tryd.prog W = .ok (.int .u8 (x : Int)) W := by
    intro k x hx W
    match k, hx with
    | 0, hx => cases hx; exact rfl
    | 1, hx => cases hx; exact rfl
    | 2, hx => cases hx; exact rfl
    | 3, hx => cases hx; exact rfl
    | k + 4, hx => cases hx
  have IX := Lib.hid ix
  clear hbox hB0 hl h4 ht hi0 hz0 hz1 hz2 ix
  obtain ⟨L, hL⟩ : ∃ L, [a, b, c, d] = L := ⟨_, rfl⟩
  have hL4 : L.length = 4 := by rw [← hL]; rfl
  have HL4 := Lib.hid hL4
  have HLe := Lib.hid hL
  clear hL hL4
  show Calls Tryd.prog 11 #[.agg #[.int .u8 a, .int .u8 b, .int .u8 c, .int .u8 d]] w _
  go_enter Tryd.func11, Tryd.ntmps11
  go_wp2_with fail
  go_loopg [3, 5, 7] 4 (fun g s3 s5 s7 wr => ∃ (k n cp : Nat) (A : Option Addr) (xs : List ByteArray), k + g = 4 ∧ n = k ∧ s3 = .slice A n cp ∧ s7 = .int .i64 k ∧ Aside (xs.length = n) ∧ Aside (ls xs = (L.take k).map dcl) ∧ wr.ownsRow w.heap.size 9 1 (.slice A n cp) n (flatG encB xs) ∧ Below w.heap.size w wr)
  case atStart => exact ⟨0, 0, 0, none, [], by omega, rfl, rfl, rfl, by
      show _ = _
      rfl, by
      show _ = _
      rfl, own_nil _ _ _ _, HB0.out⟩
  case round =>
    obtain ⟨k, n, cp, A, xs, hk, rfl, rfl, rfl, hxl, hxs, hO, hB⟩ := hrel
    have k0 : (0 : Int) ≤ (n : Int) := by omega
    have HB := Lib.hid hB
    have HS := Lib.hid hB.size
    have HO := Lib.hid hO
    have Hxl := Lib.hid hxl.out
    have Hxs := Lib.hid hxs.out
    clear hB hO hxl hxs
    cases gk with
    | zero =>
      have k1 : ¬ (n : Int) < 4 := by omega
      have h4 : n = 4 := by omega
      have hj : joinL 46 (ls xs) = print4L L := by
        rw [Hxs.out, List.take_of_length_le (by rw [HL4.out]; omega)]
        rfl
      have ho : OwnG 1 encB 9 wr w.heap.size (.slice A xs.length cp) xs := by
        unfold OwnG
        rw [Hxl.out]
        exact HO.out
      have cj := join_any 46 xs A cp w.heap.size wr ho (by rw [Hxl.out]; omega) (by rw [Hxl.out]; omega) (by
        rw [hj]
        have := print4_len (l := L) (by rw [HL4.out]; omega) (by rw [← HLe.out]; exact Hl.out)
        omega)
      rw [hj, Hxl.out] at cj
      have Cj := Lib.hid cj
      clear hj ho cj h4
      go_wp2_with fail
      (with_reducible refine Cj.out.mono ?_)
      rintro e w2 ⟨rfl, hB2⟩
      have HF := Lib.hid (HB.out.trans (hB2.mono HS.out))
      clear hB2
      go_wp2_with fail
      go_ret
      rw [HLe.out]
      exact ⟨rfl, HF.out⟩
    | succ g =>
      have k1 : (n : Int) < 4 := by omega
      have hkl : n < L.length := by rw [HL4.out]; omega
      obtain ⟨x, hx⟩ : ∃ x, L[n]? = some x := ⟨_, List.getElem?_eq_getElem hkl⟩
      have hx9 : x ≤ 255 := Hl.out x (by rw [HLe.out]; exact List.mem_of_getElem? hx)
      have hix := IX.out n x (by rw [HLe.out]; exact hx)
      have ci := itoa_any x wr (by omega) (HT.out.later HB.out)
      obtain ⟨D, hD⟩ : ∃ D, bs (dcl x) = D := ⟨_, rfl⟩
      rw [hD] at ci
      have Ci := Lib.hid ci
      have hnx : ls (xs ++ [D]) = (L.take (n + 1)).map dcl := by
        unfold ls
        rw [List.map_append, take_succ_getD hx, List.map_append, ← Hxs.out, List.map_singleton, List.map_singleton, ← hD, bs_list]
      have Hnx := Lib.hid hnx
      clear hkl hx ci hD hnx
      go_wp2_with fail
      (with_reducible refine Ci.out.mono ?_)
      rintro e w2 ⟨rfl, hB2⟩
      have hBt := HB.out.trans (hB2.mono HS.out)
      have hx2 : ((w2.alloc (.cells (flatG encB [D]).toArray 9)).heap[w2.heap.size]? = some (.cells (flatG encB [D]).toArray 9 (0, 0))) := heap_alloc_new w2 _
      have Hx2 := Lib.hid (rs_news hx2)
      have hO2 := own_below HO.out hB2
      have HO2 := Lib.hid (show (w2.alloc (.cells (flatG encB [D]).toArray 9)).ownsRow w.heap.size 9 1 (.slice A n cp) n (flatG encB xs) from own_later hO2 fun b hb => Below.heap_alloc _ _ _ (own_lt hO2 hb).2)
      have HBt := Lib.hid hBt
      have HS2 := Lib.hid hBt.size
      clear hB2 hBt hx2 hO2
      go_wp2_with (at_builtin; refine wpList_append_lies _ rfl _ _ 48 rfl w.heap.size 9 i0 (.string ⟨#[]⟩) 1 16 Tryd.underlying48 Hi0.out Hz0.out Hz1.out Hz2.out rfl (by decide) (.slice A n cp) n (flatG encB xs) rfl HO2.out ⟨w2.heap.size, 0, none⟩ 1 1 (flatG encB [D]) (by simp [go_sem]) rfl Hx2.out (flatG_one encB_ok _) (by decide) (by simp only [maxLen]; omega) (by omega) (by have := HS2.out; simp; omega) (w2.heap.size + 1) (by simp) ?_; intro g2 cap w5 hown2 hgrow hat hlt)
      have HF := Lib.hid (And.intro hown2 hgrow)
      clear hown2 hgrow hat hlt
      go_wp2_with fail
      go_roundg g
      case measure => omega
      case rel => exact ⟨n + 1, n + 1, cap, some ⟨g2, 0, none⟩, xs ++ [D], by omega, rfl, rfl, by go_num, by
          show _ = _
          rw [List.length_append, Hxl.out]
          rfl, Hnx.out, by
          rw [flatG_append]
          exact HF.out.1, (HBt.out.alloc HS2.out _).grown HF.out.2 (by have := HS2.out; simp; omega) (fun b e => (own_lt HO.out e).1)⟩
end Go.Proofs.YtoldhhaplndkcaaDoor
