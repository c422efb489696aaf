/- Numbers as texts: strconv's, and the document's. -/
import Derived.Test.YtoldhhaplndkcaaDoorBuild
import Derived.Deep.LoopGhost
import Derived.Laws.IdiomStrings
import Derived.Laws.Concat
import Derived.Lib.ItoaLen
namespace Go.Proofs.YtoldhhaplndkcaaDoor
open Go.RowKit Go.Shelf Go.Sort
set_option linter.unusedVariables false
set_option linter.unusedSimpArgs false

theorem add_plain (b o j : Nat) : (⟨b, o, none⟩ : Addr).add j = ⟨b, o + j, none⟩ := by unfold Addr.add; split <;> simp_all
theorem size_list (s : ByteArray) : s.data.toList.length = s.size := by simp
def bs (l : List UInt8) : ByteArray := ⟨l.toArray⟩
theorem bs_size (l : List UInt8) : (bs l).size = l.length := by
  show l.toArray.size = _
  simp
theorem bs_list (l : List UInt8) : (bs l).data.toList = l := by simp [bs]
theorem append_list (a b : ByteArray) : (a ++ b).data.toList = a.data.toList ++ b.data.toList := by
  rw [ByteArray.data_append, Array.toList_append]
theorem bs_append (a b : List UInt8) : bs a ++ bs b = bs (a ++ b) := by
  apply ByteArray.ext
  apply Array.toList_inj.1
  rw [append_list, bs_list, bs_list, bs_list]
theorem bs_of (s : ByteArray) : bs s.data.toList = s := by simp [bs]
theorem bs_inj {a b : List UInt8} (h : bs a = bs b) : a = b := by
  have := congrArg (fun s : ByteArray => s.data.toList) h
  rwa [bs_list, bs_list] at this
theorem add_strs {a b c : ByteArray} (h : a.size + b.size ≤ 4611686018427387904) (e : a ++ b = c) (W : World) : (Op.stringOp .add a b).run Tryd.prog W = .ok (.string c) W := by
  rw [← e]
  exact run_string_add_sum W a b (by omega)
theorem add_two (a b c : List UInt8) (h : a.length + b.length ≤ 4611686018427387904) (e : a ++ b = c) (W : World) : (Op.stringOp .add (bs a) (bs b)).run Tryd.prog W = .ok (.string (bs c)) W :=
  add_strs (by rw [bs_size, bs_size]; omega) (by rw [bs_append, e]) W
/-- A digit's sign. -/
def chd (d : Nat) : UInt8 := UInt8.ofNat (48 + d)
/-- A number's decimal text. -/
def dcF : Nat → Nat → List UInt8
  | 0, _ => []
  | f + 1, n => if n < 10 then [chd n] else dcF f (n / 10) ++ [chd (n % 10)]
def dcl (n : Nat) : List UInt8 := dcF 20 n
theorem dcF_eq : ∀ (f n : Nat), n < 10 ^ f → 0 < f → Lib.decDigits n = dcF f n
  | 0, _, _, h => by cases h
  | f + 1, n, hn, _ => by
    unfold dcF
    by_cases h : n < 10
    · rw [if_pos h, Lib.decDigits, dif_pos h]
      rfl
    · rw [if_neg h, Lib.decDigits, dif_neg h]
      have hf : 0 < f := by
        rcases Nat.eq_zero_or_pos f with rfl | h0
        · simp at hn; omega
        · exact h0
      rw [dcF_eq f (n / 10) (by rw [Nat.pow_succ] at hn; omega) hf]
      rfl
theorem dcl_eq {n : Nat} (h : n < 10 ^ 20) : Lib.decDigits n = dcl n := dcF_eq 20 n h (by decide)
theorem dcF_len : ∀ (f n : Nat), (dcF f n).length ≤ f
  | 0, _ => Nat.le_refl _
  | f + 1, n => by
    unfold dcF
    split
    · simp
    · rw [List.length_append]
      have := dcF_len f (n / 10)
      simp
      omega
theorem dcl_len (n : Nat) : (dcl n).length ≤ 20 := dcF_len 20 n
/-- The table of powers of ten stands. -/
def Tab10 (w : World) : Prop := Lib.TabIs Tryd.prog w "internal/strconv.uint64pow10" .u64 Lib.pow10Tab
theorem Tab10.later {w W : World} (h : Tab10 w) (hb : Below w.heap.size w W) : Tab10 W := by
  unfold Tab10 Lib.TabIs World.var? at *
  cases hg : Tryd.prog.globalNamed "internal/strconv.uint64pow10" with
  | none => simp [hg] at h
  | some g =>
    simp only [hg, Option.bind_some] at h ⊢
    have hlt : g < w.heap.size := by
      rcases Nat.lt_or_ge g w.heap.size with h' | h'
      · exact h'
      · rw [Array.getElem?_eq_none h'] at h; simp at h
    rw [hb.block g hlt]
    exact h
theorem itoa_any (n : Nat) (w : World) (hn : n ≤ 4294967295) (ht : Tab10 w) : Calls Tryd.prog 33 #[.int .i64 n] w fun e w' => e = .returned (.string (bs (dcl n))) ∧ Below w.heap.size w w' := by
  refine (Tryd.strconv_Itoa (n : Int) (by omega) (by omega) w ht).mono ?_
  rintro e w' ⟨rfl, k, os, rfl⟩
  refine ⟨?_, Lib.below_grow _ _ (Nat.le_refl _) _ _⟩
  rw [Lib.itoa_nonneg, dcl_eq (by omega)]
  rfl
set_option maxHeartbeats 6400000 in
set_option maxRecDepth 100000 in
theorem ifmtu_any (u : Nat) (w : World) (hu : u ≤ 4294967295) (ht : Tab10 w) : Calls Tryd.prog 52 #[.int .u64 u, .int .i64 10] w fun e w' => e = .returned (.string (bs (dcl u))) ∧ Below w.heap.size w w' := by
  rw [← dcl_eq (by omega)]
  have i0 : (0 : Int) ≤ (u : Int) := by omega
  have i1 : (u : Int) ≤ 4294967295 := by omega
  by_cases hs : u < 100
  · have hd : decide ((u : Int) < 100) = true := decide_eq_true (by omega)
    go_enter Tryd.func52, Tryd.ntmps52
    go_wp2_with (go_at_call 70; refine (Tryd.internal_strconv_small u hs _).mono ?_; rintro e w' ⟨rfl, rfl⟩)
    go_ret
    exact ⟨rfl, Below.refl _ _⟩
  · have hu1 : 1 ≤ u := by omega
    have hu64 : u < 18446744073709551616 := by omega
    have hnd20 : Lib.nDigits u ≤ 20 := Lib.nDigits_le20 u hu64
    have hnp := Lib.nDigits_pos u
    have hal : Tryd.prog.arrayLen 106 = 24 := by simp [Program.arrayLen, Tryd.underlying106]
    have hsl1 : ∀ W, (Instr.sliceAt 106 (.pointer (some ⟨w.heap.size, 0, none⟩)) none (some (.int .i64 (Lib.nDigits u : Int))) none).run Tryd.prog W = .ok (.slice (some ⟨w.heap.size, 0, none⟩) (Lib.nDigits u) 24) W := fun W => by
      rw [run_sliceAt_array_h W 106 ⟨w.heap.size, 0, none⟩ (by simp [Program.arrayLen, Program.elem, Tryd.underlying106]) .i64 (Lib.nDigits u : Int) (by omega) (by rw [hal]; omega)]
      go_simp
    have hH0 := Lib.holds_zero0 w 106 (Lib.nDigits u) (by omega)
    have hfmt := Tryd.internal_strconv_formatBase10 w.heap.size 0 24 u (Array.replicate (Lib.nDigits u) 0) (w.alloc (.cells Lib.zeros24 106)) hH0 (by rw [Array.size_replicate]; exact Lib.lt_pow_nDigits u) hu64 (by rw [Array.size_replicate]; omega)
    rw [Array.size_replicate] at hfmt
    have hnum := Tryd.internal_strconv_numDigits u hu1 hu64 (w.alloc (.cells Lib.zeros24 106)) (Lib.tabIs_alloc ht _)
    have HH0 := Lib.hid hH0
    have Hf := Lib.hid hfmt
    have Hn := Lib.hid hnum
    have hd : decide ((u : Int) < 100) = false := decide_eq_false (by omega)
    clear hH0 hal hfmt hnum hs
    go_enter Tryd.func52, Tryd.ntmps52
    go_wp2_with fail
    refine Hn.out.mono ?_
    rintro e w' ⟨rfl, rfl⟩
    go_wp2_with fail
    refine Hf.out.mono ?_
    rintro e w' ⟨rfl, k, v', dk, rfl, hF⟩
    have hcv : (convert 34 9 (.slice (some ⟨w.heap.size, 0, none⟩) (Lib.nDigits u) 24)).run Tryd.prog ((putRow (fun (b : UInt8) => Value.int .u8 (b.toNat : Int)) (w.alloc (.cells Lib.zeros24 106)) w.heap.size 0 dk).drewN k) = .ok (.string ⟨(Lib.decDigits u).toArray⟩) ((putRow (fun (b : UInt8) => Value.int .u8 (b.toNat : Int)) (w.alloc (.cells Lib.zeros24 106)) w.heap.size 0 dk).drewN k) := by
      have h := run_convert_bytes_back (P := Tryd.prog) ((putRow (fun (b : UInt8) => Value.int .u8 (b.toNat : Int)) (w.alloc (.cells Lib.zeros24 106)) w.heap.size 0 dk).drewN k) 34 9 5 ⟨w.heap.size, 0, none⟩ 24 (Lib.decDigits u) Tryd.underlying34 Tryd.underlying5 Tryd.underlying9 (fun j hj => by
        rw [Lib.row_is_numeral hF j hj, Lib.add_plain, World.cell?_drewN]
        exact cell?_putRow (fun (b : UInt8) => Value.int .u8 (b.toNat : Int)) _ w.heap.size 0 _ dk HH0.out (by rw [hF.size, Array.size_replicate]) j (by rw [hF.size]; rw [Lib.decDigits_length] at hj; exact hj))
      rw [Lib.decDigits_length] at h
      exact h
    go_wp2_with fail
    go_ret
    obtain ⟨os, eo⟩ := Lib.fin_at w (.cells Lib.zeros24 106) dk k 0
    refine ⟨rfl, ?_⟩
    rw [eo]
    exact Lib.below_grow _ _ (Nat.le_refl _) _ _
theorem fmtu_any (u : Nat) (w : World) (hu : u ≤ 4294967295) (ht : Tab10 w) : Calls Tryd.prog 30 #[.int .u64 u, .int .i64 10] w fun e w' => e = .returned (.string (bs (dcl u))) ∧ Below w.heap.size w w' := by
  have c := Lib.hid (ifmtu_any u w hu ht)
  clear hu ht
  go_enter Tryd.func30, Tryd.ntmps30
  go_wp2_with fail
  refine c.out.mono ?_
  rintro e w' ⟨rfl, hB⟩
  have HB := Lib.hid hB
  clear hB
  go_wp2_with fail
  go_ret
  exact ⟨rfl, HB.out⟩
end Go.Proofs.YtoldhhaplndkcaaDoor
