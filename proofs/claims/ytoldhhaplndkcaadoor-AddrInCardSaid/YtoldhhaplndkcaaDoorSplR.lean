/- Split: the document's and the library's. -/
import Derived.Test.YtoldhhaplndkcaaDoorSplL
import Derived.Test.YtoldhhaplndkcaaDoorShelf
namespace Go.Proofs.YtoldhhaplndkcaaDoor
open Go.RowKit Go.Shelf Go.Deep
set_option linter.unusedVariables false
set_option linter.unusedSimpArgs false

theorem own_newN {α : Type} {k : Nat} {enc : α → List Value} (E : EncOk k enc) (t : TypeId) (w : World) (l : List α) (hl : l.length ≤ 4611686018427387904) : OwnG k enc t (w.alloc (.cells (flatG enc l).toArray t)) w.heap.size (.slice (some ⟨w.heap.size, 0, none⟩) l.length l.length) l :=
  ⟨flatG_length E l, .inr ⟨w.heap.size, l.length, (flatG enc l).toArray, rfl, Nat.le_refl _, heap_alloc_new w _, Nat.le_refl _, by simp only [maxLen]; omega, by simp [flatG_length E], by
    rw [← flatG_length E]
    simp⟩⟩
theorem flatB (L : List ByteArray) : flatG encB L = L.map Value.string := by
  unfold flatG
  induction L with
  | nil => rfl
  | cons x L ih => rw [List.flatMap_cons, ih]; rfl
theorem ls_length (L : List ByteArray) : (ls L).length = L.length := List.length_map ..
theorem psplit_any (s : ByteArray) (c : UInt8) (m : Int) (w : World) (hs : s.size ≤ 1048576) (hm : w.cell? ⟨3, 0, none⟩ = some (.int .i64 m)) : Calls Tryd.prog 28 #[.string s, .string ⟨#[c]⟩] w fun e w' => ∃ v, e = .returned v ∧ ∃ (L : List ByteArray), ls L = splitL c s.data.toList ∧ L.length ≤ s.size + 1 ∧ (∀ x ∈ L, x.size ≤ s.size) ∧ OwnG 1 encB 9 w' w.heap.size v L ∧ Below w.heap.size w w' := by
  refine (Tryd.strings_Split s ⟨#[c]⟩ m w (by omega) hm (Nat.le_refl _)).mono ?_
  rintro e w' ⟨rfl, rfl⟩
  have hL := splitB_eq s ⟨#[c]⟩ c rfl
  have hz := splitB_small ⟨#[c]⟩ (Lib.countB s ⟨#[c]⟩) s
  have hlen := Lib.splitB_all ⟨#[c]⟩ (Nat.le_refl _) 0 _ s rfl
  obtain ⟨L, hLL⟩ : ∃ L, Lib.splitB ⟨#[c]⟩ 0 (Lib.countB s ⟨#[c]⟩) s = L := ⟨_, rfl⟩
  rw [hLL] at hL hz hlen ⊢
  have h9 : L.length ≤ s.size + 1 := by
    rw [← ls_length, hL, ← size_list]
    exact splitL_len c _
  refine ⟨_, rfl, L, hL, h9, hz, ?_, (Below.refl _ _).alloc (Nat.le_refl _) _⟩
  have h := own_newN encB_ok 9 w L (by omega)
  rw [flatB] at h
  rw [← hlen]
  exact h
/-- The parts so far, and the text from the last one's begin on. -/
def PartsAt (c : UInt8) (s : ByteArray) (f i : Nat) (L : List ByteArray) (R : List (List UInt8)) : Prop :=
  f ≤ i ∧ i ≤ s.size ∧ L.length ≤ f ∧ ls L ++ splitL c (s.data.toList.drop f) = R ∧ c ∉ (s.data.toList.drop f).take (i - f) ∧ ∀ x ∈ L, x.size ≤ s.size
theorem PartsAt.skip {c : UInt8} {s : ByteArray} {f i : Nat} {L : List ByteArray} {R : List (List UInt8)} (h : PartsAt c s f i L R) (hi : i < s.size) (hb : ¬ s[i] = c) : PartsAt c s f (i + 1) L R := by
  obtain ⟨h1, h2, h3, h4, h5, h6⟩ := h
  refine ⟨by omega, by omega, h3, h4, ?_, h6⟩
  have e : (s.data.toList.drop f).take (i + 1 - f) = (s.data.toList.drop f).take (i - f) ++ [s[i]] := by
    have hl : i - f < (s.data.toList.drop f).length := by rw [List.length_drop, size_list]; omega
    rw [show i + 1 - f = (i - f) + 1 from by omega, List.take_succ_eq_append_getElem hl]
    congr 2
    have h9 : (s.data.toList.drop f)[i - f]? = some s[i] := by
      rw [List.getElem?_drop, show f + (i - f) = i from by omega]
      exact get_byte hi
    rw [List.getElem?_eq_getElem hl] at h9
    exact Option.some.inj h9
  rw [e]
  intro hm
  rcases List.mem_append.1 hm with hm | hm
  · exact h5 hm
  · exact hb (List.mem_singleton.1 hm).symm
theorem PartsAt.cut {c : UInt8} {s : ByteArray} {f i : Nat} {L : List ByteArray} {R : List (List UInt8)} (h : PartsAt c s f i L R) (hi : i < s.size) (hb : s[i] = c) : PartsAt c s (i + 1) (i + 1) (L ++ [s.extract f i]) R := by
  obtain ⟨h1, h2, h3, h4, h5, h6⟩ := h
  refine ⟨by omega, by omega, by rw [List.length_append]; simp; omega, ?_, by simp, ?_⟩
  · rw [← h4]
    have hd := drop_byte hi
    rw [hb] at hd
    have e : s.data.toList.drop f = (s.data.toList.drop f).take (i - f) ++ c :: s.data.toList.drop (i + 1) := by
      rw [← hd]
      have := (List.take_append_drop (i - f) (s.data.toList.drop f)).symm
      rw [List.drop_drop, show f + (i - f) = i from by omega] at this
      exact this
    have e2 : splitL c (s.data.toList.drop f) = (s.data.toList.drop f).take (i - f) :: splitL c (s.data.toList.drop (i + 1)) := by
      rw [e, splitL_at _ _ h5]
      congr 1
      rw [← e]
    rw [e2]
    unfold ls
    rw [List.map_append, List.append_assoc, List.map_singleton, extract_list]
    rfl
  · intro x hx
    rcases List.mem_append.1 hx with hx | hx
    · exact h6 x hx
    · rw [List.mem_singleton.1 hx, ByteArray.size_extract]; omega
theorem PartsAt.last {c : UInt8} {s : ByteArray} {f i : Nat} {L : List ByteArray} {R : List (List UInt8)} (h : PartsAt c s f i L R) (hi : ¬ i < s.size) : ls (L ++ [s.extract f s.size]) = R ∧ (∀ x ∈ L ++ [s.extract f s.size], x.size ≤ s.size) := by
  obtain ⟨h1, h2, h3, h4, h5, h6⟩ := h
  have hl : (s.data.toList.drop f).length = s.size - f := by rw [List.length_drop, size_list]
  rw [List.take_of_length_le (by rw [hl]; omega)] at h5
  rw [splitL_one _ h5] at h4
  constructor
  · rw [← h4]
    unfold ls
    rw [List.map_append, List.map_singleton, extract_list, List.take_of_length_le (by rw [hl]; omega)]
  · intro x hx
    rcases List.mem_append.1 hx with hx | hx
    · exact h6 x hx
    · rw [List.mem_singleton.1 hx, ByteArray.size_extract]; omega
set_option maxRecDepth 100000 in
set_option maxHeartbeats 3200000 in
theorem rsplit_any (s : ByteArray) (c : UInt8) (w : World) (hs : s.size ≤ 1048576) : Calls Tryd.prog 31 #[.string s, .int .u8 c.toNat] w fun e w' => ∃ v, e = .returned v ∧ ∃ (L : List ByteArray), ls L = splitL c s.data.toList ∧ L.length ≤ s.size + 1 ∧ (∀ x ∈ L, x.size ≤ s.size) ∧ OwnG 1 encB 9 w' w.heap.size v L ∧ Below w.heap.size w w' := by
  obtain ⟨R, hR⟩ : ∃ R, splitL c s.data.toList = R := ⟨_, rfl⟩
  rw [hR]
  obtain ⟨i0, hi0, hz0, hz1, hz2⟩ := info_parts infoStr
  have Hi0 := Lib.hid hi0
  have Hz0 := Lib.hid hz0
  have Hz1 := Lib.hid hz1
  have Hz2 := Lib.hid hz2
  have HR := Lib.hid hR
  have s0 : (0 : Int) ≤ (s.size : Int) := by omega
  clear hi0 hz0 hz1 hz2 hR
  go_enter Tryd.func31, Tryd.ntmps31
  go_wp2_with fail
  go_loopg [5, 6, 7] s.size (fun g t3 t4 t5 wr => ∃ (L : List ByteArray) (A : Option Addr) (cp n f i : Nat), i + g = s.size ∧ t3 = .slice A n cp ∧ t4 = .int .i64 f ∧ t5 = .int .i64 i ∧ n ≤ f ∧ f ≤ i ∧ Aside (n = L.length) ∧ Aside (PartsAt c s f i L R) ∧ wr.ownsRow w.heap.size 9 1 (.slice A n cp) n (flatG encB L) ∧ Below w.heap.size w wr)
  case atStart => exact ⟨[], none, 0, 0, 0, 0, by omega, rfl, rfl, rfl, by omega, by omega, by
      show _ = _
      rfl, ⟨by omega, by omega, by simp, by rw [← HR.out]; rfl, by simp, by simp⟩, own_nil _ _ _ _, Below.refl _ _⟩
  case round =>
    obtain ⟨L, A, cp, n, f, i, hi, rfl, rfl, rfl, hnf, hfi, hn, hLA, hown, hB⟩ := hrel
    have HO := Lib.hid hown
    have HB := Lib.hid hB
    have HS := Lib.hid hB.size
    have Hn := Lib.hid hn.out
    have HL := Lib.hid hLA.out
    have i0' : (0 : Int) ≤ (i : Int) := by omega
    have f0 : (0 : Int) ≤ (f : Int) := by omega
    have fi : (f : Int) ≤ (i : Int) := by omega
    clear hown hB hn hLA
    cases gk with
    | zero =>
      have k1 : ¬ (i : Int) < (s.size : Int) := by omega
      have f2 : (f : Int) ≤ (s.size : Int) := by omega
      obtain ⟨hd, hz⟩ := HL.out.last (by omega)
      have hx : ((wr.alloc (.cells (flatG encB [s.extract f s.size]).toArray 9)).heap[wr.heap.size]? = some (.cells (flatG encB [s.extract f s.size]).toArray 9 (0, 0))) := heap_alloc_new wr _
      have Hx := Lib.hid (rs_news hx)
      have HO2 := Lib.hid (show (wr.alloc (.cells (flatG encB [s.extract f s.size]).toArray 9)).ownsRow w.heap.size 9 1 (.slice A n cp) n (flatG encB L) from own_later HO.out fun b hb => Below.heap_alloc _ _ _ (own_lt HO.out hb).2)
      have Hd := Lib.hid hd
      have Hz := Lib.hid hz
      clear hd hz hx
      go_wp2_with (at_builtin; refine wpList_append_lies _ rfl _ _ 48 rfl w.heap.size 9 i0 (.string ⟨#[]⟩) 1 16 Tryd.underlying48 Hi0.out Hz0.out Hz1.out Hz2.out rfl (by decide) (.slice A n cp) n (flatG encB L) rfl HO2.out ⟨wr.heap.size, 0, none⟩ 1 1 (flatG encB [s.extract f s.size]) (by simp [go_sem]) rfl Hx.out (flatG_one encB_ok _) (by decide) (by simp only [maxLen]; omega) (by omega) (by have := HS.out; simp; omega) (wr.heap.size + 1) (by simp) ?_; intro g2 cap w5 hown2 hgrow hat hlt)
      have HF := Lib.hid (And.intro hown2 hgrow)
      clear hown2 hgrow hat hlt
      go_wp2_with fail
      go_ret
      refine ⟨_, rfl, L ++ [s.extract f s.size], Hd.out, by rw [List.length_append, ← Hn.out]; simp; omega, Hz.out, ?_, (HB.out.alloc HS.out _).grown HF.out.2 (by have := HS.out; simp; omega) (fun b e => (own_lt HO.out e).1)⟩
      unfold OwnG
      rw [List.length_append, flatG_append, ← Hn.out]
      exact HF.out.1
    | succ g =>
      have k1 : (i : Int) < (s.size : Int) := by omega
      have hlt : i < s.size := by omega
      obtain ⟨b, hb⟩ : ∃ b, s[i] = b := ⟨_, rfl⟩
      by_cases hb10 : b = c
      · have d1 : ((b.toNat : Int) == (c.toNat : Int)) = true := by rw [hb10]; simp
        have HL2 := Lib.hid (HL.out.cut hlt (hb.trans hb10))
        have i9 : (i : Int) ≤ (s.size : Int) := by omega
        have hx : ((wr.alloc (.cells (flatG encB [s.extract f i]).toArray 9)).heap[wr.heap.size]? = some (.cells (flatG encB [s.extract f i]).toArray 9 (0, 0))) := heap_alloc_new wr _
        have Hx := Lib.hid (rs_news hx)
        have HO2 := Lib.hid (show (wr.alloc (.cells (flatG encB [s.extract f i]).toArray 9)).ownsRow w.heap.size 9 1 (.slice A n cp) n (flatG encB L) from own_later HO.out fun b hb => Below.heap_alloc _ _ _ (own_lt HO.out hb).2)
        clear hx hb10
        go_wp2_with (at_builtin; refine wpList_append_lies _ rfl _ _ 48 rfl w.heap.size 9 i0 (.string ⟨#[]⟩) 1 16 Tryd.underlying48 Hi0.out Hz0.out Hz1.out Hz2.out rfl (by decide) (.slice A n cp) n (flatG encB L) rfl HO2.out ⟨wr.heap.size, 0, none⟩ 1 1 (flatG encB [s.extract f i]) (by simp [go_sem]) rfl Hx.out (flatG_one encB_ok _) (by decide) (by simp only [maxLen]; omega) (by omega) (by have := HS.out; simp; omega) (wr.heap.size + 1) (by simp) ?_; intro g2 cap w5 hown2 hgrow hat hlt2)
        have HF := Lib.hid (And.intro hown2 hgrow)
        clear hown2 hgrow hat hlt2
        go_wp2_with fail
        go_roundg g
        case measure => omega
        case rel => exact ⟨L ++ [s.extract f i], some ⟨g2, 0, none⟩, cap, n + 1, i + 1, i + 1, by omega, rfl, by go_num, by go_num, by omega, by omega, by
            show _ = _
            rw [List.length_append, ← Hn.out]
            rfl, HL2.out, by
            rw [flatG_append]
            exact HF.out.1, (HB.out.alloc HS.out _).grown HF.out.2 (by have := HS.out; simp; omega) (fun b e => (own_lt HO.out e).1)⟩
      · have d1 : ((b.toNat : Int) == (c.toNat : Int)) = false := by
          rw [beq_eq_false_iff_ne]
          intro h
          exact hb10 (UInt8.toNat_inj.1 (by omega))
        have HL2 := Lib.hid (HL.out.skip hlt (by rw [hb]; exact hb10))
        clear hb10
        go_wp2_with fail
        go_roundg g
        case measure => omega
        case rel => exact ⟨L, A, cp, n, f, i + 1, by omega, rfl, rfl, by go_num, by omega, by omega, Hn.out, HL2.out, HO.out, HB.out⟩
end Go.Proofs.YtoldhhaplndkcaaDoor
