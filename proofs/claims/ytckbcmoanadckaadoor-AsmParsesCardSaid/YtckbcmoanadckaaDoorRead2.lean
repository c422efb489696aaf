/- reader's inner function: one form, and its line. -/
import Derived.Test.YtckbcmoanadckaaDoorRead1
import Derived.BigQuiet
namespace Go.Proofs.YtckbcmoanadckaaDoor
open Go.RowKit Go.Shelf
set_option linter.unusedVariables false
set_option linter.unusedSimpArgs false

/-- A line, read by a form. -/
def rdL : List UInt8 → List UInt8 → Ins → Option Ins
  | [], r, i => if r = [] then some i else none
  | b :: f, r, i =>
    if isF b then (if decide (0 < (digN 11 r 0).1) && decide ((digN 11 r 0).2 ≤ most b) then rdL f (r.drop (digN 11 r 0).1) (setF i b (digN 11 r 0).2) else none)
    else match r with
      | [] => none
      | c :: r => if c = b then rdL f r i else none
theorem extract_list (s : ByteArray) (a b : Nat) : (s.extract a b).data.toList = (s.data.toList.drop a).take (b - a) := by
  simp [ByteArray.data_extract]
theorem extract_rest (s : ByteArray) (a : Nat) : (s.extract a s.size).data.toList = s.data.toList.drop a := by
  rw [extract_list, List.take_of_length_le (by rw [List.length_drop, size_list]; omega)]
theorem idx_ctfk (b : UInt8) : decide (Lib.indexByte [67, 84, 70, 75] b < 0) = !isF b := by
  have h1 := count_has [67, 84, 70, 75] b
  have h2 : ([67, 84, 70, 75] : List UInt8).contains b = isF b := by
    unfold isF
    rw [Bool.eq_iff_iff]
    simp [or_assoc]
  rw [h2] at h1
  rw [← h1, Bool.eq_iff_iff]
  simp
theorem idx_any (b : UInt8) (x : Bool) (w : World) (h : isF b = x) : Calls Tryd.prog 65 #[.string ⟨#[67, 84, 70, 75]⟩, .int .u8 (b.toNat : Int)] w fun e w' => ∃ n : Int, e = .returned (.int .i64 n) ∧ decide (n < 0) = !x ∧ w = w' :=
  (Tryd.strings_IndexByte ⟨#[67, 84, 70, 75]⟩ (b.toNat : Int) w).mono fun e w' hh => ⟨Lib.indexByte [67, 84, 70, 75] b, by rw [hh.1, Int.toNat_natCast]; simp, by rw [idx_ctfk, h], hh.2.symm⟩
theorem rdL_end (r : List UInt8) (i : Ins) : rdL [] r i = if r = [] then some i else none := by
  unfold rdL
  rfl
theorem rdL_num {b : UInt8} (f r : List UInt8) (i : Ins) (h : isF b = true) : rdL (b :: f) r i = if (decide (0 < (digN 11 r 0).1) && decide ((digN 11 r 0).2 ≤ most b)) = true then rdL f (r.drop (digN 11 r 0).1) (setF i b (digN 11 r 0).2) else none := by
  rw [rdL.eq_def]
  simp only [h, if_true]
theorem rdL_nil {b : UInt8} (f : List UInt8) (i : Ins) (h : isF b = false) : rdL (b :: f) [] i = none := by
  rw [rdL.eq_def]
  simp only [h, Bool.false_eq_true, if_false]
theorem rdL_chr {b : UInt8} (c : UInt8) (f r : List UInt8) (i : Ins) (h : isF b = false) : rdL (b :: f) (c :: r) i = if c = b then rdL f r i else none := by
  rw [rdL.eq_def]
  simp only [h, Bool.false_eq_true, if_false]
theorem belowSet4 {B : Nat} {w W : World} (h : Below B w W) (a b c d : Value) : Below B w ((((W.setCell ⟨B, 0, none⟩ a).setCell ⟨B, 1, none⟩ b).setCell ⟨B, 2, none⟩ c).setCell ⟨B, 3, none⟩ d) :=
  (((h.setCell (p := ⟨B, 0, none⟩) (Nat.le_refl _) a).setCell (p := ⟨B, 1, none⟩) (Nat.le_refl _) b).setCell (p := ⟨B, 2, none⟩) (Nat.le_refl _) c).setCell (p := ⟨B, 3, none⟩) (Nat.le_refl _) d
theorem insAt_new (w : World) (i : Ins) : InsAt (w.alloc (objN i)) w.heap.size i := heap_alloc_new w _
set_option maxRecDepth 100000 in
set_option maxHeartbeats 3200000 in
theorem reader1_any (s : ByteArray) (f : List UInt8) (code : Nat) (pc pf : Nat) (w : World) (hs : s.size ≤ 4611686018427387904) (hf : f.length ≤ 100000000) (hcode : code ≤ 65535) (hpc : w.cell? ⟨pc, 0, none⟩ = some (.int .u16 code)) (hpf : w.cell? ⟨pf, 0, none⟩ = some (.string (bs f))) :
    Calls Tryd.prog 64 #[.string s, .pointer (some ⟨pc, 0, none⟩), .pointer (some ⟨pf, 0, none⟩)] w fun e w' => ∃ j : Ins, e = .returned (.tuple #[aggN j, .bool (rdL f s.data.toList ⟨code, 0, 0, 0⟩).isSome]) ∧ Aside (∀ x, rdL f s.data.toList ⟨code, 0, 0, 0⟩ = some x → j = x) ∧ Below w.heap.size w w' := by
  obtain ⟨R, hR⟩ : ∃ R, rdL f s.data.toList ⟨code, 0, 0, 0⟩ = R := ⟨_, rfl⟩
  rw [hR]
  have hsz := bs_size f
  have Hsz := Lib.hid hsz
  have HR := Lib.hid hR
  have hlc : pc < w.heap.size := World.block_lt_of_cell? w _ hpc
  have hlf : pf < w.heap.size := World.block_lt_of_cell? w _ hpf
  have Hpf := Lib.hid hpf
  have Hlf := Lib.hid hlf
  clear hR hsz
  go_enter Tryd.func64, Tryd.ntmps64
  go_wp2_with fail
  go_loopg [7, 8] f.length (fun g s7 s8 wr => ∃ (k p : Nat) (ins : Ins), k + g = f.length ∧ s7 = .int .i64 p ∧ s8 = .int .i64 k ∧ p ≤ s.size ∧ Aside (rdL (f.drop k) (s.data.toList.drop p) ins = R) ∧ InsAt wr w.heap.size ⟨0, 0, 0, 0⟩ ∧ InsAt wr (w.heap.size + 1) ins ∧ Below w.heap.size w wr)
  case atStart => exact ⟨0, 0, ⟨code, 0, 0, 0⟩, by omega, rfl, rfl, by omega, by
      show _ = _
      rw [← HR.out]
      rfl, (insAt_new w _).later ((Below.refl _ _).alloc (Nat.le_refl _) _), by
      have := insAt_new (w.alloc (objN ⟨0, 0, 0, 0⟩)) ⟨code, 0, 0, 0⟩
      rw [show (w.alloc (objN ⟨0, 0, 0, 0⟩)).heap.size = w.heap.size + 1 from by simp] at this
      exact this, ((Below.refl _ w).alloc (Nat.le_refl _) _).alloc (by simp) _⟩
  case round =>
    obtain ⟨k, p, ins, hk, rfl, rfl, hp, hA, hz, hi, hB⟩ := hrel
    obtain ⟨⟨z0, z1, z2, z3⟩, ⟨y0, y1, y2, y3⟩, hzl⟩ := hz.cells
    obtain ⟨⟨i0, i1, i2, i3⟩, ⟨x0, x1, x2, x3⟩, hil⟩ := hi.cells
    have Hz := Lib.hid hz
    have Hi := Lib.hid hi
    have HB := Lib.hid hB
    have fw : wr.cell? ⟨pf, 0, none⟩ = some (.string (bs f)) := (hB.cell (p := ⟨pf, 0, none⟩) Hlf.out).trans Hpf.out
    have k0 : (0 : Int) ≤ (k : Int) := by omega
    have p0 : (0 : Int) ≤ (p : Int) := by omega
    have Hzl := Lib.hid hzl
    clear hz hi hB hzl hil
    cases gk with
    | zero =>
      have k1 : ¬ (k : Int) < ((bs f).size : Int) := by rw [Hsz.out]; omega
      have hA2 := hA.out
      rw [List.drop_of_length_le (by omega), rdL_end] at hA2
      by_cases he : p = s.size
      · have hR : R = some ins := by
          rw [← hA2, List.drop_of_length_le (by rw [size_list]; omega)]
          rfl
        have HRv := Lib.hid hR
        have e1 : (p : Int) = (s.size : Int) := by omega
        clear hA2 hA hR he
        go_wp2_with fail
        refine bodyPost_ret (v := .tuple #[aggN ins, .bool true]) (by simp [results, Tryd.results64, go_sem, *]) rfl ⟨ins, by rw [HRv.out]; rfl, by
          show ∀ x, R = some x → _
          rw [HRv.out]
          intro x hx
          exact Option.some.inj hx, by exact belowSet4 HB.out _ _ _ _⟩
      · have hR : R = none := by
          rw [← hA2, if_neg (by
            intro h
            have := congrArg List.length h
            rw [List.length_drop, size_list] at this
            simp at this
            omega)]
        have HRv := Lib.hid hR
        have e1 : ¬ (p : Int) = (s.size : Int) := by omega
        clear hA2 hA hR he
        go_wp2_with fail
        refine bodyPost_ret (v := .tuple #[aggN ins, .bool false]) (by simp [results, Tryd.results64, go_sem, *]) rfl ⟨ins, by rw [HRv.out]; rfl, by
          show ∀ x, R = some x → _
          rw [HRv.out]
          intro x hx
          exact (nomatch hx), by exact belowSet4 HB.out _ _ _ _⟩
    | succ g =>
      have k1 : (k : Int) < ((bs f).size : Int) := by rw [Hsz.out]; omega
      have hkf : k < f.length := by omega
      obtain ⟨b, hbk⟩ : ∃ b, f[k]? = some b := ⟨_, List.getElem?_eq_getElem hkf⟩
      have hgb : (bs f)[k]'(by rw [Hsz.out]; exact hkf) = b := by
        rw [getElem_bs]
        rw [List.getElem?_eq_getElem hkf] at hbk
        exact Option.some.inj hbk
      have hdr : f.drop k = b :: f.drop (k + 1) := by
        rw [List.drop_eq_getElem_cons hkf]
        rw [List.getElem?_eq_getElem hkf] at hbk
        rw [Option.some.inj hbk]
      have hA2 := hA.out
      rw [hdr] at hA2
      have HA := Lib.hid hA2
      clear hA2 hA hdr hbk
      cases hb : isF b with
      | false =>
        have Hb := Lib.hid hb
        have ci := idx_any b false wr hb
        have Ci := Lib.hid ci
        clear ci hb
        by_cases hlt : p < s.size
        · have p1 : (p : Int) < (s.size : Int) := by omega
          have p2 : ((p : Int) == (s.size : Int)) = false := by simp; omega
          have hA2 := HA.out
          rw [drop_byte hlt, rdL_chr _ _ _ _ Hb.out] at hA2
          by_cases hcb : s[p] = b
          · rw [if_pos hcb] at hA2
            have HA2 := Lib.hid hA2
            have e2 : ((s[p].toNat : Int) != (b.toNat : Int)) = false := by rw [hcb]; simp
            clear hA2 hcb HA
            go_wp2_with fail
            refine Ci.out.mono ?_
            rintro e w2 ⟨n, rfl, hn, rfl⟩
            go_wp2_with fail
            go_quiet (fail)
            go_wp2_with fail
            go_roundg g
            case measure => omega
            case rel => exact ⟨k + 1, p + 1, ins, by omega, by go_num, by go_num, by omega, HA2.out, by first | exact Hz.out | exact Hz.out.later (belowN (Below.refl _ _) _), by first | exact Hi.out | exact Hi.out.later (belowN (Below.refl _ _) _), by first | exact HB.out | exact belowN HB.out _⟩
          · rw [if_neg hcb] at hA2
            have HRv := Lib.hid hA2.symm
            have e2 : ((s[p].toNat : Int) != (b.toNat : Int)) = true := by
              have : ¬ (s[p].toNat : Int) = (b.toNat : Int) := fun h => hcb (UInt8.toNat_inj.1 (by omega))
              simp
              omega
            clear hA2 hcb HA
            go_wp2_with fail
            refine Ci.out.mono ?_
            rintro e w2 ⟨n, rfl, hn, rfl⟩
            go_wp2_with fail
            go_quiet (fail)
            go_wp2_with fail
            refine bodyPost_ret (v := .tuple #[aggN ⟨0, 0, 0, 0⟩, .bool false]) (by simp [results, Tryd.results64, go_sem, *]) rfl ⟨⟨0, 0, 0, 0⟩, by rw [HRv.out]; rfl, by
              show ∀ x, R = some x → _
              rw [HRv.out]
              intro x hx
              exact (nomatch hx), by exact belowSet4 (belowN HB.out _) _ _ _ _⟩
        · have p1 : ((p : Int) == (s.size : Int)) = true := by simp; omega
          have hA2 := HA.out
          rw [List.drop_of_length_le (l := s.data.toList) (by rw [size_list]; omega), rdL_nil _ _ Hb.out] at hA2
          have HRv := Lib.hid hA2.symm
          clear hA2 hlt HA
          go_wp2_with fail
          refine Ci.out.mono ?_
          rintro e w2 ⟨n, rfl, hn, rfl⟩
          go_wp2_with fail
          go_quiet (fail)
          go_wp2_with fail
          refine bodyPost_ret (v := .tuple #[aggN ⟨0, 0, 0, 0⟩, .bool false]) (by simp [results, Tryd.results64, go_sem, *]) rfl ⟨⟨0, 0, 0, 0⟩, by rw [HRv.out]; rfl, by
            show ∀ x, R = some x → _
            rw [HRv.out]
            intro x hx
            exact (nomatch hx), by exact belowSet4 (belowN HB.out _) _ _ _ _⟩
      | true =>
        have Hb := Lib.hid hb
        have ci := idx_any b true wr hb
        have Ci := Lib.hid ci
        have hle := digN_le 11 (s.data.toList.drop p) 0
        have hvl := digN_val 11 (s.data.toList.drop p) 0
        have hA2 := HA.out
        rw [rdL_num _ _ _ Hb.out] at hA2
        have cn := number_any (s.extract p s.size) wr (by rw [ByteArray.size_extract]; omega)
        rw [extract_rest] at cn
        obtain ⟨D, hD⟩ : ∃ D, digN 11 (s.data.toList.drop p) 0 = D := ⟨_, rfl⟩
        rw [hD] at cn hA2 hle hvl
        obtain ⟨n, v⟩ := D
        rw [List.length_drop, size_list] at hle
        have hn11 : n ≤ 11 := hle.1
        have hnp : n ≤ s.size - p := hle.2
        have hv11 : v ≤ 100000000000 := by
          have h3 : (10 : Nat) ^ 11 = 100000000000 := by decide
          simp only at hvl
          omega
        have p1 : (p : Int) ≤ (s.size : Int) := by omega
        have Cn := Lib.hid cn
        have cp := put_any (w.heap.size + 1) ins b v n wr Hi.out Hb.out hv11 hn11
        simp only at hA2
        obtain ⟨y, hy⟩ : ∃ y, (decide (0 < n) && decide (v ≤ most b)) = y := ⟨_, rfl⟩
        rw [hy] at cp hA2
        have Cp := Lib.hid cp
        have n0 : (0 : Int) ≤ (n : Int) := by omega
        have v0 : (0 : Int) ≤ (v : Int) := by omega
        clear ci hb hle hvl cn cp hD hy HA
        cases y with
        | true =>
          rw [if_pos rfl, List.drop_drop] at hA2
          have HA2 := Lib.hid hA2
          clear hA2
          go_wp2_with fail
          refine Ci.out.mono ?_
          rintro e w2 ⟨n', rfl, hn', rfl⟩
          go_wp2_with fail
          refine Cn.out.mono ?_
          rintro e w2 ⟨rfl, rfl⟩
          go_wp2_with fail
          refine Cp.out.mono ?_
          rintro e w3 ⟨rfl, hi3, hB3⟩
          have Hi3 := Lib.hid hi3
          have HB3 := Lib.hid hB3
          clear hi3 hB3
          go_wp2_with fail
          go_roundg g
          case measure => omega
          case rel => exact ⟨k + 1, p + n, setF ins b v, by omega, by go_num, by go_num, by omega, HA2.out, by
              have := HB3.out.block w.heap.size (by omega)
              exact this.trans Hz.out, Hi3.out, HB.out.trans (HB3.out.mono (by omega))⟩
        | false =>
          rw [if_neg (by simp)] at hA2
          have HRv := Lib.hid hA2.symm
          clear hA2
          go_wp2_with fail
          refine Ci.out.mono ?_
          rintro e w2 ⟨n', rfl, hn', rfl⟩
          go_wp2_with fail
          refine Cn.out.mono ?_
          rintro e w2 ⟨rfl, rfl⟩
          go_wp2_with fail
          refine Cp.out.mono ?_
          rintro e w3 ⟨rfl, hi3, hB3⟩
          have hz3 : InsAt w3 w.heap.size ⟨0, 0, 0, 0⟩ := (hB3.block w.heap.size (by omega)).trans Hz.out
          obtain ⟨⟨z0', z1', z2', z3'⟩, ⟨y0', y1', y2', y3'⟩, hzl'⟩ := hz3.cells
          have HB3 := Lib.hid (HB.out.trans (hB3.mono (by omega)))
          clear hi3 hB3 hz3
          go_wp2_with fail
          refine bodyPost_ret (v := .tuple #[aggN ⟨0, 0, 0, 0⟩, .bool false]) (by simp [results, Tryd.results64, go_sem, *]) rfl ⟨⟨0, 0, 0, 0⟩, by rw [HRv.out]; rfl, by
            show ∀ x, R = some x → _
            rw [HRv.out]
            intro x hx
            exact (nomatch hx), by exact belowSet4 HB3.out _ _ _ _⟩
end Go.Proofs.YtckbcmoanadckaaDoor
