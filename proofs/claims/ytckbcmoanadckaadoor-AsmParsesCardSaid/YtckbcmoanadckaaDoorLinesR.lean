/- The document's Lines. -/
import Derived.Test.YtckbcmoanadckaaDoorBackL
namespace Go.Proofs.YtckbcmoanadckaaDoor
open Go.RowKit Go.Shelf Go.Deep
set_option linter.unusedVariables false
set_option linter.unusedSimpArgs false

abbrev encB (x : ByteArray) : List Value := [.string x]
theorem encB_ok : EncOk 1 encB := ⟨fun _ => rfl, fun a v hv => by
  simp only [encB, List.mem_singleton] at hv
  subst hv
  rfl, by decide⟩
theorem infoStr : (Tryd.prog.info? 9).map (fun i => (i.zero, i.size, i.bytes)) = some (some (.string ⟨#[]⟩), 1, 16) := by kernel_rfl
abbrev ls (L : List ByteArray) : List (List UInt8) := L.map fun b => b.data.toList
/-- The lines read so far, and the text from the last line's begin on. -/
def LinesAt (s : ByteArray) (from_ i : Nat) (L : List ByteArray) (R : List (List UInt8)) : Prop :=
  from_ ≤ i ∧ i ≤ s.size ∧ L.length ≤ from_ ∧ ls L ++ linesL (s.data.toList.drop from_) = R ∧ (10 : UInt8) ∉ (s.data.toList.drop from_).take (i - from_) ∧ ∀ x ∈ L, x.size ≤ s.size
theorem LinesAt.skip {s : ByteArray} {f i : Nat} {L : List ByteArray} {R : List (List UInt8)} (h : LinesAt s f i L R) (hi : i < s.size) (hb : ¬ s[i] = 10) : LinesAt s f (i + 1) L R := by
  obtain ⟨h1, h2, h3, h4, h5, h6⟩ := h
  refine ⟨by omega, by omega, h3, h4, ?_, h6⟩
  have hd := drop_byte hi
  have e : (s.data.toList.drop f).take (i + 1 - f) = (s.data.toList.drop f).take (i - f) ++ [s[i]] := by
    have hl : i - f < (s.data.toList.drop f).length := by rw [List.length_drop, size_list]; omega
    rw [show i + 1 - f = (i - f) + 1 from by omega, List.take_succ_eq_append_getElem hl]
    congr 2
    have : (s.data.toList.drop i).head? = some s[i] := by rw [hd]; rfl
    have h9 : (s.data.toList.drop f)[i - f]? = some s[i] := by
      rw [List.getElem?_drop, show f + (i - f) = i from by omega, ← List.head?_drop]
      exact this
    rw [List.getElem?_eq_getElem hl] at h9
    exact Option.some.inj h9
  rw [e]
  intro hm
  rcases List.mem_append.1 hm with hm | hm
  · exact h5 hm
  · exact hb (List.mem_singleton.1 hm).symm
theorem LinesAt.cut {s : ByteArray} {f i : Nat} {L : List ByteArray} {R : List (List UInt8)} (h : LinesAt s f i L R) (hi : i < s.size) (hb : s[i] = 10) : LinesAt s (i + 1) (i + 1) (L ++ [s.extract f i]) R := by
  obtain ⟨h1, h2, h3, h4, h5, h6⟩ := h
  refine ⟨by omega, by omega, by rw [List.length_append]; simp; omega, ?_, by simp, ?_⟩
  · rw [← h4]
    have hd := drop_byte hi
    rw [hb] at hd
    have e : s.data.toList.drop f = (s.data.toList.drop f).take (i - f) ++ 10 :: s.data.toList.drop (i + 1) := by
      rw [← hd]
      have := (List.take_append_drop (i - f) (s.data.toList.drop f)).symm
      rw [List.drop_drop, show f + (i - f) = i from by omega] at this
      exact this
    have e2 : linesL (s.data.toList.drop f) = (s.data.toList.drop f).take (i - f) :: linesL (s.data.toList.drop (i + 1)) := by
      rw [e, linesL_lf _ _ h5]
      congr 1
      rw [← e]
    rw [e2]
    unfold ls
    rw [List.map_append, List.append_assoc, List.map_singleton, extract_list]
    rfl
  · intro x hx
    rcases List.mem_append.1 hx with hx | hx
    · exact h6 x hx
    · rw [List.mem_singleton.1 hx, ByteArray.size_extract]; omega
theorem LinesAt.done {s : ByteArray} {f i : Nat} {L : List ByteArray} {R : List (List UInt8)} (h : LinesAt s f i L R) (hi : ¬ i < s.size) (hf : ¬ f < s.size) : ls L = R := by
  obtain ⟨h1, h2, h3, h4, h5, h6⟩ := h
  rw [List.drop_of_length_le (by rw [size_list]; omega)] at h4
  rw [← h4]
  show _ = ls L ++ linesL []
  rw [linesL.eq_def, List.append_nil]
theorem LinesAt.last {s : ByteArray} {f i : Nat} {L : List ByteArray} {R : List (List UInt8)} (h : LinesAt s f i L R) (hi : ¬ i < s.size) (hf : f < s.size) : ls (L ++ [s.extract f s.size]) = R := by
  obtain ⟨h1, h2, h3, h4, h5, h6⟩ := h
  have hl : (s.data.toList.drop f).length = s.size - f := by rw [List.length_drop, size_list]
  rw [List.take_of_length_le (by rw [hl]; omega)] at h5
  rw [linesL_one _ h5 (fun e => by rw [e] at hl; simp at hl; omega)] at h4
  rw [← h4]
  unfold ls
  rw [List.map_append, List.map_singleton, extract_list, List.take_of_length_le (by rw [hl]; omega)]
theorem LinesAt.sizes {s : ByteArray} {f i : Nat} {L : List ByteArray} {R : List (List UInt8)} (h : LinesAt s f i L R) (hf : f < s.size) : ∀ x ∈ L ++ [s.extract f s.size], x.size ≤ s.size := by
  intro x hx
  rcases List.mem_append.1 hx with hx | hx
  · exact h.2.2.2.2.2 x hx
  · rw [List.mem_singleton.1 hx, ByteArray.size_extract]; omega
set_option maxRecDepth 100000 in
set_option maxHeartbeats 3200000 in
theorem rlines_any (s : ByteArray) (w : World) (hs : s.size ≤ 1048576) : Calls Tryd.prog 37 #[.string s] w fun e w' => ∃ v, e = .returned v ∧ ∃ (L : List ByteArray), ls L = linesL s.data.toList ∧ L.length ≤ s.size ∧ (∀ x ∈ L, x.size ≤ s.size) ∧ OwnG 1 encB 9 w' w.heap.size v L ∧ Below w.heap.size w w' := by
  obtain ⟨R, hR⟩ : ∃ R, linesL s.data.toList = R := ⟨_, rfl⟩
  rw [hR]
  obtain ⟨i0, hi0, hz0, hz1, hz2⟩ := info_parts infoStr
  have Hi0 := Lib.hid hi0
  have Hz0 := Lib.hid hz0
  have Hz1 := Lib.hid hz1
  have Hz2 := Lib.hid hz2
  have HR := Lib.hid hR
  have s0 : (0 : Int) ≤ (s.size : Int) := by omega
  clear hi0 hz0 hz1 hz2 hR
  go_enter Tryd.func37, Tryd.ntmps37
  go_wp2_with fail
  go_loopg [3, 4, 5] s.size (fun g t3 t4 t5 wr => ∃ (L : List ByteArray) (A : Option Addr) (c n f i : Nat), i + g = s.size ∧ t3 = .slice A n c ∧ t4 = .int .i64 f ∧ t5 = .int .i64 i ∧ n ≤ f ∧ f ≤ i ∧ Aside (n = L.length) ∧ Aside (LinesAt s f i L R) ∧ wr.ownsRow w.heap.size 9 1 (.slice A n c) n (flatG encB L) ∧ Below w.heap.size w wr)
  case atStart => exact ⟨[], none, 0, 0, 0, 0, by omega, rfl, rfl, rfl, by omega, by omega, by
      show _ = _
      rfl, ⟨by omega, by omega, by simp, by rw [← HR.out]; rfl, by simp, by simp⟩, own_nil _ _ _ _, Below.refl _ _⟩
  case round =>
    obtain ⟨L, A, c, n, f, i, hi, rfl, rfl, rfl, hnf, hfi, hn, hLA, hown, hB⟩ := hrel
    have HO := Lib.hid hown
    have HB := Lib.hid hB
    have HS := Lib.hid hB.size
    have Hn := Lib.hid hn.out
    have HL := Lib.hid hLA.out
    have i0' : (0 : Int) ≤ (i : Int) := by omega
    have f0 : (0 : Int) ≤ (f : Int) := by omega
    have fi : (f : Int) ≤ (i : Int) := by omega
    clear hown hB hn hLA
    cases gk with
    | zero =>
      have k1 : ¬ (i : Int) < (s.size : Int) := by omega
      by_cases hf : f < s.size
      · have f1 : (f : Int) < (s.size : Int) := by omega
        have f2 : (f : Int) ≤ (s.size : Int) := by omega
        have hd := HL.out.last (by omega) hf
        have hz := HL.out.sizes hf
        have hx : ((wr.alloc (.cells (flatG encB [s.extract f s.size]).toArray 9)).heap[wr.heap.size]? = some (.cells (flatG encB [s.extract f s.size]).toArray 9 (0, 0))) := heap_alloc_new wr _
        have Hx := Lib.hid (rs_news hx)
        have HO2 := Lib.hid (show (wr.alloc (.cells (flatG encB [s.extract f s.size]).toArray 9)).ownsRow w.heap.size 9 1 (.slice A n c) n (flatG encB L) from own_later HO.out fun b hb => Below.heap_alloc _ _ _ (own_lt HO.out hb).2)
        have Hd := Lib.hid hd
        have Hz := Lib.hid hz
        clear hd hz hx hf
        go_wp2_with (at_builtin; refine wpList_append_lies _ rfl _ _ 62 rfl w.heap.size 9 i0 (.string ⟨#[]⟩) 1 16 Tryd.underlying62 Hi0.out Hz0.out Hz1.out Hz2.out rfl (by decide) (.slice A n c) n (flatG encB L) rfl HO2.out ⟨wr.heap.size, 0, none⟩ 1 1 (flatG encB [s.extract f s.size]) (by simp [go_sem]) rfl Hx.out (flatG_one encB_ok _) (by decide) (by simp only [maxLen]; omega) (by omega) (by have := HS.out; simp; omega) (wr.heap.size + 1) (by simp) ?_; intro g2 cap w5 hown2 hgrow hat hlt)
        have HF := Lib.hid (And.intro hown2 hgrow)
        clear hown2 hgrow hat hlt
        go_wp2_with fail
        go_ret
        refine ⟨_, rfl, L ++ [s.extract f s.size], Hd.out, by rw [List.length_append, ← Hn.out]; simp; omega, Hz.out, ?_, (HB.out.alloc HS.out _).grown HF.out.2 (by have := HS.out; simp; omega) (fun b e => (own_lt HO.out e).1)⟩
        unfold OwnG
        rw [List.length_append, flatG_append, ← Hn.out]
        exact HF.out.1
      · have f1 : ¬ (f : Int) < (s.size : Int) := by omega
        have hd := HL.out.done (by omega) hf
        have Hd := Lib.hid hd
        clear hd hf
        go_wp2_with fail
        go_ret
        refine ⟨_, rfl, L, Hd.out, by rw [← Hn.out]; omega, HL.out.2.2.2.2.2, ?_, HB.out⟩
        unfold OwnG
        rw [← Hn.out]
        exact HO.out
    | succ g =>
      have k1 : (i : Int) < (s.size : Int) := by omega
      have hlt : i < s.size := by omega
      obtain ⟨b, hb⟩ : ∃ b, s[i] = b := ⟨_, rfl⟩
      by_cases hb10 : b = 10
      · subst hb10
        have d1 : (((10 : UInt8).toNat : Int) == 10) = true := rfl
        have HL2 := Lib.hid (HL.out.cut hlt hb)
        have i9 : (i : Int) ≤ (s.size : Int) := by omega
        have hx : ((wr.alloc (.cells (flatG encB [s.extract f i]).toArray 9)).heap[wr.heap.size]? = some (.cells (flatG encB [s.extract f i]).toArray 9 (0, 0))) := heap_alloc_new wr _
        have Hx := Lib.hid (rs_news hx)
        have HO2 := Lib.hid (show (wr.alloc (.cells (flatG encB [s.extract f i]).toArray 9)).ownsRow w.heap.size 9 1 (.slice A n c) n (flatG encB L) from own_later HO.out fun b hb => Below.heap_alloc _ _ _ (own_lt HO.out hb).2)
        clear hx
        go_wp2_with (at_builtin; refine wpList_append_lies _ rfl _ _ 62 rfl w.heap.size 9 i0 (.string ⟨#[]⟩) 1 16 Tryd.underlying62 Hi0.out Hz0.out Hz1.out Hz2.out rfl (by decide) (.slice A n c) n (flatG encB L) rfl HO2.out ⟨wr.heap.size, 0, none⟩ 1 1 (flatG encB [s.extract f i]) (by simp [go_sem]) rfl Hx.out (flatG_one encB_ok _) (by decide) (by simp only [maxLen]; omega) (by omega) (by have := HS.out; simp; omega) (wr.heap.size + 1) (by simp) ?_; intro g2 cap w5 hown2 hgrow hat hlt2)
        have HF := Lib.hid (And.intro hown2 hgrow)
        clear hown2 hgrow hat hlt2
        go_wp2_with fail
        go_roundg g
        case measure => omega
        case rel => exact ⟨L ++ [s.extract f i], some ⟨g2, 0, none⟩, cap, n + 1, i + 1, i + 1, by omega, rfl, by go_num, by go_num, by omega, by omega, by
            show _ = _
            rw [List.length_append, ← Hn.out]
            rfl, HL2.out, by
            rw [flatG_append]
            exact HF.out.1, (HB.out.alloc HS.out _).grown HF.out.2 (by have := HS.out; simp; omega) (fun b e => (own_lt HO.out e).1)⟩
      · have d1 : ((b.toNat : Int) == 10) = false := by
          rw [beq_eq_false_iff_ne]
          intro h
          exact hb10 (UInt8.toNat_inj.1 (by show b.toNat = 10; omega))
        have HL2 := Lib.hid (HL.out.skip hlt (by rw [hb]; exact hb10))
        clear hb10
        go_wp2_with fail
        go_roundg g
        case measure => omega
        case rel => exact ⟨L, A, c, n, f, i + 1, by omega, rfl, rfl, by go_num, by omega, by omega, Hn.out, HL2.out, HO.out, HB.out⟩
end Go.Proofs.YtckbcmoanadckaaDoor
