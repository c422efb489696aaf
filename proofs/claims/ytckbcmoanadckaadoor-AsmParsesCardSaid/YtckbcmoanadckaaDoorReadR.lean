/- read: a line's instruction, by the rows. -/
import Derived.Test.YtckbcmoanadckaaDoorRowz
import Derived.Laws.EntriesVeiled
namespace Go.Proofs.YtckbcmoanadckaaDoor
open Go.RowKit Go.Shelf Go.Deep
set_option linter.unusedVariables false
set_option linter.unusedSimpArgs false

theorem rdL_ok : ∀ (f r : List UInt8) (i x : Ins), InsOk i → rdL f r i = some x → InsOk x
  | [], r, i, x, hi, h => by
    rw [rdL_end] at h
    split at h
    · cases h; exact hi
    · cases h
  | b :: f, r, i, x, hi, h => by
    cases hb : isF b with
    | true =>
      rw [rdL_num _ _ _ hb] at h
      split at h
      · exact rdL_ok f _ _ x (setF_ok hi _ _) h
      · cases h
    | false =>
      match r, h with
      | [], h => rw [rdL_nil _ _ hb] at h; cases h
      | c :: r, h =>
        rw [rdL_chr _ _ _ _ hb] at h
        split at h
        · exact rdL_ok f _ _ x hi h
        · cases h
/-- A line's instruction, by the first row that fits. -/
def readL : List (List UInt8 × Nat) → List UInt8 → Option Ins
  | [], _ => none
  | (f, c) :: rs, l => match rdL f l ⟨c, 0, 0, 0⟩ with
    | some i => if lineL i = l then some i else readL rs l
    | none => readL rs l
theorem readL_none {f : List UInt8} {c : Nat} {l : List UInt8} (rs : List (List UInt8 × Nat)) (h : rdL f l ⟨c, 0, 0, 0⟩ = none) : readL ((f, c) :: rs) l = readL rs l := by
  rw [readL.eq_def]
  simp only [h]
theorem readL_some {f : List UInt8} {c : Nat} {l : List UInt8} {i : Ins} (rs : List (List UInt8 × Nat)) (h : rdL f l ⟨c, 0, 0, 0⟩ = some i) : readL ((f, c) :: rs) l = if lineL i = l then some i else readL rs l := by
  rw [readL.eq_def]
  simp only [h]
theorem rows_code {r : List UInt8 × Nat} (h : r ∈ rowsN 256) : r.2 ≤ 65535 ∧ r.1.length ≤ 100 := by
  unfold rowsN at h
  rcases List.mem_cons.1 h with rfl | h
  · exact ⟨by decide, by decide⟩
  · obtain ⟨c, hc, rfl⟩ := List.mem_map.1 h
    have := List.mem_range.1 (List.mem_filter.1 hc).1
    exact ⟨by show c ≤ 65535; omega, formL_len c⟩
theorem bs_eq_iff (l : List UInt8) (s : ByteArray) : (bs l = s) ↔ l = s.data.toList := by
  constructor
  · intro h
    rw [← h, bs_list]
  · intro h
    rw [h]
    rfl
def zeroI : Ins := ⟨0, 0, 0, 0⟩
set_option maxRecDepth 100000 in
set_option maxHeartbeats 3200000 in
theorem read_any (g n cap : Nat) (s : ByteArray) (w : World) (hs : s.size ≤ 4611686018427387904) (hr : RowsAt w g n cap (rowsN 256)) (ht : Tab10 w) : Calls Tryd.prog 40 #[.slice (some ⟨g, 0, none⟩) n cap, .string s] w fun e w' => e = .returned (.tuple #[aggN ((readL (rowsN 256) s.data.toList).getD zeroI), .bool (readL (rowsN 256) s.data.toList).isSome]) ∧ Below w.heap.size w w' := by
  obtain ⟨hn, vs, hown, hrow⟩ := hr
  have hrc : ∀ r ∈ rowsN 256, r.2 ≤ 65535 ∧ r.1.length ≤ 100 := fun r h => rows_code h
  obtain ⟨RS, hRS⟩ : ∃ RS, rowsN 256 = RS := ⟨_, rfl⟩
  have hn257 := rowsN_len 256
  rw [hRS] at hrow hrc hn hn257 ⊢
  obtain ⟨R, hR⟩ : ∃ R, readL RS s.data.toList = R := ⟨_, rfl⟩
  rw [hR]
  have HR := Lib.hid hR
  have HO := Lib.hid hown
  have HRow := Lib.hid hrow
  have HRc := Lib.hid hrc
  have HT := Lib.hid ht
  have n0 : (0 : Int) ≤ (n : Int) := by omega
  have n1 : n ≤ 257 := by omega
  have Hn := Lib.hid hn
  clear hR hown hrow hrc ht hRS hn257 hn
  go_enter Tryd.func40, Tryd.ntmps40
  go_wp2_with fail
  go_loopg [12] n (fun gg s12 wr => ∃ i : Nat, i + gg = n ∧ s12 = .int .i64 i ∧ Aside (readL (RS.drop i) s.data.toList = R) ∧ InsAt wr w.heap.size ⟨0, 0, 0, 0⟩ ∧ Below w.heap.size w wr)
  case atStart => exact ⟨0, by omega, rfl, by
      show _ = _
      rw [← HR.out]
      rfl, insAt_new w ⟨0, 0, 0, 0⟩, (Below.refl _ w).alloc (Nat.le_refl _) _⟩
  case round =>
    obtain ⟨i, hi, rfl, hA, hz, hB⟩ := hrel
    obtain ⟨⟨z0, z1, z2, z3⟩, ⟨y0, y1, y2, y3⟩, hzl⟩ := hz.cells
    have Hz := Lib.hid hz
    have HB := Lib.hid hB
    have Hzl := Lib.hid hzl
    have i0 : (0 : Int) ≤ (i : Int) := by omega
    clear hz hB hzl
    cases gk with
    | zero =>
      have i1 : ¬ (i : Int) < (n : Int) := by omega
      have hA2 := hA.out
      rw [List.drop_of_length_le (by rw [← Hn.out]; omega)] at hA2
      have HRv := Lib.hid (show R = none from hA2.symm)
      clear hA2 hA
      go_wp2_with fail
      refine bodyPost_ret (v := .tuple #[aggN ⟨0, 0, 0, 0⟩, .bool false]) (by simp [results, Tryd.results40, go_sem, *]) rfl ⟨by rw [HRv.out]; rfl, by exact belowSet4 HB.out _ _ _ _⟩
    | succ gg =>
      have i1 : (i : Int) < (n : Int) := by omega
      have hin : i < n := by omega
      have hlen : vs.length = n := by rw [HRow.out.len, Hn.out]
      obtain ⟨v, hv⟩ : ∃ v, vs[i]? = some v := ⟨_, List.getElem?_eq_getElem (by omega)⟩
      obtain ⟨⟨f, c⟩, hr⟩ : ∃ r, RS[i]? = some r := ⟨_, List.getElem?_eq_getElem (by rw [← Hn.out]; omega)⟩
      obtain ⟨pc, pf, rfl, hc, hf, _, _⟩ := HRow.out.row i v _ hv hr
      obtain ⟨hc2, hfl⟩ := HRc.out _ (List.mem_of_getElem? hr)
      have hc2 : c ≤ 65535 := hc2
      have hfl : f.length ≤ 100 := hfl
      have HRcc := Lib.hid hc2
      have hcell : wr.cell? ⟨g, i, none⟩ = some (cloV pc pf) := by
        have h0 := own_cells HO.out _ rfl i _ hv
        have h1 : w.cell? ⟨g, i, none⟩ = some (cloV pc pf) := by
          have e : (⟨g, 0, none⟩ : Addr).add i = ⟨g, i, none⟩ := by
            cases i with
            | zero => rfl
            | succ i => simp [Addr.add]
          rw [e] at h0
          exact h0
        exact (HB.out.cell (p := ⟨g, i, none⟩) (World.block_lt_of_cell? w _ h1)).trans h1
      have hdr : RS.drop i = (f, c) :: RS.drop (i + 1) := by
        have hl : i < RS.length := by rw [← Hn.out]; omega
        rw [List.drop_eq_getElem_cons hl]
        rw [List.getElem?_eq_getElem hl] at hr
        rw [Option.some.inj hr]
      have hA2 := hA.out
      rw [hdr] at hA2
      have HA := Lib.hid hA2
      have hcW : wr.cell? ⟨pc, 0, none⟩ = some (.int .u16 c) := (HB.out.cell (p := ⟨pc, 0, none⟩) (World.block_lt_of_cell? w _ hc)).trans hc
      have hfW : wr.cell? ⟨pf, 0, none⟩ = some (.string (bs f)) := (HB.out.cell (p := ⟨pf, 0, none⟩) (World.block_lt_of_cell? w _ hf)).trans hf
      have hal := (Below.refl wr.heap.size wr).alloc (Nat.le_refl _) (.cells #[cloV pc pf] 82)
      have cr := reader1_any s f c pc pf (wr.alloc (.cells #[cloV pc pf] 82)) hs (by omega) hc2 ((hal.cell (p := ⟨pc, 0, none⟩) (World.block_lt_of_cell? wr _ hcW)).trans hcW) ((hal.cell (p := ⟨pf, 0, none⟩) (World.block_lt_of_cell? wr _ hfW)).trans hfW)
      obtain ⟨X, hX⟩ : ∃ X, rdL f s.data.toList ⟨c, 0, 0, 0⟩ = X := ⟨_, rfl⟩
      rw [hX] at cr
      have hz1 : InsAt (wr.alloc (.cells #[cloV pc pf] 82)) w.heap.size ⟨0, 0, 0, 0⟩ := Hz.out.later hal
      have hB1 : Below w.heap.size w (wr.alloc (.cells #[cloV pc pf] 82)) := HB.out.trans (hal.mono (HB.out.size))
      have Cr := Lib.hid cr
      have HX := Lib.hid hX
      have HZ1 := Lib.hid hz1
      have HB1 := Lib.hid hB1
      clear hX hA2 hA hdr hv hr hc hf hc2 hfl hcW hfW hal cr hlen hin hz1 hB1
      go_wp2_with fail
      refine Cr.out.mono ?_
      rintro e w2 ⟨j, rfl, hj, hB2⟩
      have hz2 := HZ1.out.later hB2
      have hB2' := HB1.out.trans (hB2.mono HB1.out.size)
      have HZ2 := Lib.hid hz2
      have HB2 := Lib.hid hB2'
      have HL2 := Lib.hid (And.intro hz2.cells.2.2 hB2'.size)
      clear hB2 hz2 hB2'
      cases X with
      | none =>
        have hA2 := HA.out
        rw [readL_none _ HX.out] at hA2
        have HA2 := Lib.hid hA2
        clear hA2 hj
        go_wp2_with fail
        go_roundg gg
        case measure => omega
        case rel => exact ⟨i + 1, by omega, by go_num, HA2.out, HZ2.out.later ((Below.refl _ _).alloc (Nat.le_refl _) _), HB2.out.alloc HL2.out.2 _⟩
      | some x =>
        have hjx : j = x := hj.out x rfl
        subst hjx
        have hok : InsOk j := rdL_ok _ _ _ _ ⟨HRcc.out, Nat.zero_le _, Nat.zero_le _, Nat.zero_le _⟩ HX.out
        have hA2 := HA.out
        rw [readL_some _ HX.out] at hA2
        have HA2 := Lib.hid hA2
        have cl := line_any j (w2.alloc (objN j)) hok (HT.out.later (HB2.out.alloc HL2.out.2 _))
        have Cl := Lib.hid cl
        clear hA2 hj hok cl
        go_wp2_with fail
        refine Cl.out.mono ?_
        rintro e w3 ⟨rfl, hB3⟩
        have hz3 := (HZ2.out.later ((Below.refl _ _).alloc (Nat.le_refl _) (objN j))).later hB3
        have hB3' : Below w.heap.size w w3 := (HB2.out.alloc HL2.out.2 _).trans (hB3.mono (by have := HL2.out.2; simp; omega))
        have hj3 := (insAt_new w2 j).later hB3
        obtain ⟨⟨q0, q1, q2, q3⟩, ⟨r0, r1, r2, r3⟩, hql⟩ := hj3.cells
        obtain ⟨⟨z0', z1', z2', z3'⟩, ⟨y0', y1', y2', y3'⟩, hzl'⟩ := hz3.cells
        have HZ3 := Lib.hid hz3
        have HB3 := Lib.hid hB3'
        clear hB3 hz3 hB3' hj3 hql hzl'
        by_cases he : lineL j = s.data.toList
        · have hA3 := HA2.out
          rw [if_pos he] at hA3
          have HRv := Lib.hid hA3.symm
          have he2 : bs (lineL j) = s := (bs_eq_iff _ _).2 he
          clear hA3 he
          go_wp2_with fail
          refine bodyPost_ret (v := .tuple #[aggN j, .bool true]) (by simp [results, Tryd.results40, go_sem, *]) rfl ⟨by rw [HRv.out]; rfl, by exact belowSet4 HB3.out _ _ _ _⟩
        · have hA3 := HA2.out
          rw [if_neg he] at hA3
          have HA3 := Lib.hid hA3
          have he2 : ((bs (lineL j)).toList == s.toList) = false := by
            rw [beq_eq_false_iff_ne, ne_eq, ByteArray.toList_eq, ByteArray.toList_eq]
            intro h
            rw [bs_list] at h
            exact he h
          clear hA3 he
          go_wp2_with fail
          go_roundg gg
          case measure => omega
          case rel => exact ⟨i + 1, by omega, by go_num, HA3.out, HZ3.out, HB3.out⟩
end Go.Proofs.YtckbcmoanadckaaDoor
