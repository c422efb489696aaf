/- LexNumbers: the walk. -/
import Derived.Test.YtoknkgeojhekoaaDoorDigW
import Derived.Deep.DeepCutAuto
namespace Go.Proofs.YtoknkgeojhekoaaDoor
open Go.RowKit Go.Shelf
set_option linter.unusedVariables false
set_option linter.unusedSimpArgs false

/-- A text that looks like a number and is none. -/
structure BadNum (l : List UInt8) : Prop where
  ne : l ≠ []
  hd : digitB (hdI l) = true
  word : ∀ x ∈ l, wordB (x.toNat : Int) = true
  none : numL l = none
  len : l.length ≤ 60
theorem sign_alone {a d : UInt8} {l : List UInt8} (ha : a = 40 ∨ a = 91) (hd : d ≠ 58) : tokR (a :: d :: l) = ⟨0, 5, 1, 0⟩ := by
  have h2 : twos.contains [a, d] = false := by
    cases h : twos.contains [a, d] with
    | false => rfl
    | true =>
      have h1 : ∀ x ∈ twos, x.head? ≠ some 40 ∧ x.head? ≠ some 91 := by decide
      have h3 := h1 [a, d] (by simpa using h)
      rcases ha with rfl | rfl
      · exact absurd rfl h3.1
      · exact absurd rfl h3.2
  have h6 : runN sixB (a :: d :: l) = 0 := by
    rw [runN_cons]
    rcases ha with rfl | rfl
    · rw [if_neg (by decide)]
    · rw [if_neg (by decide)]
  have hs : signN (a :: d :: l) = 1 := by
    unfold signN
    rw [if_neg (by rw [show List.take 2 (a :: d :: l) = [a, d] from rfl, h2]; simp)]
    show (if ones.contains a = true then 1 else 0) = 1
    rcases ha with rfl | rfl <;> decide
  unfold tokR
  rw [h6, hs]
  rcases ha with rfl | rfl <;> rfl
theorem wordB_ne {d : UInt8} (h : wordB (d.toNat : Int) = true) : d ≠ 58 ∧ blankB (d.toNat : Int) = false := by
  constructor
  · rintro rfl
    revert h
    decide
  · cases hb : blankB (d.toNat : Int) with
    | false => rfl
    | true =>
      have := (blank_not hb).2.2
      rw [this] at h
      cases h
theorem lexL_sign {a : UInt8} {l : List UInt8} {at0 : Nat} (ha : a = 40 ∨ a = 91) (hl : l ≠ []) (hw : ∀ x ∈ l.take 1, wordB (x.toNat : Int) = true) : lexL (a :: l) at0 = preL [⟨5, at0, bs [a], 0⟩] (lexL l (at0 + 1)) := by
  obtain ⟨d, l0, rfl⟩ : ∃ d l0, l = d :: l0 := by
    cases l with
    | nil => exact absurd rfl hl
    | cons d l0 => exact ⟨d, l0, rfl⟩
  have ht := sign_alone (l := l0) ha (wordB_ne (hw d (by simp))).1
  rw [lexL_tok (by rcases ha with rfl | rfl <;> decide) (by rw [ht])]
  unfold tkAt
  rw [ht]
  rfl
theorem lexL_bad_num {l : List UInt8} (h : BadNum l) (at0 : Nat) : lexL l at0 = .error (at0, 102) := by
  have ht := tokR_num h.ne h.hd h.word
  rw [h.none] at ht
  have ht : tokR l = ⟨102, 0, 0, 0⟩ := ht
  obtain ⟨d, l0, rfl⟩ : ∃ d l0, l = d :: l0 := by
    cases l with
    | nil => exact absurd rfl h.ne
    | cons d l0 => exact ⟨d, l0, rfl⟩
  rw [lexL_bad (wordB_ne (h.word d (by simp))).2 (by rw [ht]; decide), ht]
theorem lexS_bad {l : List UInt8} (h : BadNum l) : lexS (bs (105 :: 112 :: 32 :: 91 :: l)) = .error (4, 102) := by
  have hlen := h.len
  rw [lexS_of (by rw [bs_size]; simp; omega), bs_list]
  have hm := (lexL_more (c := 32) (by decide) (91 :: l) [105, 112] 0).2 [⟨2, 0, bs [105, 112], 0⟩] (endT 2) (by kernel_rfl)
  have hm : lexL (105 :: 112 :: 32 :: 91 :: l) 0 = preL [⟨2, 0, bs [105, 112], 0⟩] (lexL (91 :: l) 3) := hm
  rw [hm, lexL_sign (.inr rfl) h.ne (fun x hx => h.word x (mem_take_of hx)), lexL_bad_num h]
  rfl
theorem num_ok {l : List UInt8} {v : Int} (hl : l ≠ []) (hd : digitB (hdI l) = true) (hw : ∀ x ∈ l, wordB (x.toNat : Int) = true) (hn : numL l = some v) (at0 : Int) : TkOk ⟨1, at0, bs l, v⟩ := by
  have ht := tokR_num hl hd hw
  rw [hn] at ht
  have ht : tokR l = ⟨0, 1, l.length, v⟩ := ht
  have hb : blankB (hdI l) = false := by
    cases l with
    | nil => exact absurd rfl hl
    | cons d l0 => exact (wordB_ne (hw d (by simp))).2
  constructor
  · show (bs l).data.toList ≠ []; rw [bs_list]; exact hl
  · show (tokR (bs l).data.toList).err = 0; rw [bs_list, ht]
  · show (tokR (bs l).data.toList).kind = 1; rw [bs_list, ht]
  · show (tokR (bs l).data.toList).len = (bs l).data.toList.length; rw [bs_list, ht]
  · show (tokR (bs l).data.toList).n = v; rw [bs_list, ht]
  · show blankB (hdI (bs l).data.toList) = false; rw [bs_list]; exact hb
theorem num_one {l m : List UInt8} {v : Int} (hl : l ≠ []) (hd : digitB (hdI l) = true) (hw : ∀ x ∈ l, wordB (x.toNat : Int) = true) (hn : numL l = some v) (hm : Stops m) (at0 : Nat) : lexL (l ++ m) at0 = preL [⟨1, at0, bs l, v⟩] (lexL m (at0 + l.length)) := by
  have h := lexL_one (num_ok hl hd hw hn 0) hm at0
  have e : (⟨1, (0 : Int), bs l, v⟩ : Tk).text.data.toList = l := bs_list l
  have e2 : (⟨1, (0 : Int), bs l, v⟩ : Tk).text.size = l.length := bs_size l
  rw [e, e2] at h
  exact h
theorem dec_facts (n : Nat) (hn : n < 2 ^ 40) : decL n ≠ [] ∧ digitB (hdI (decL n)) = true ∧ (∀ x ∈ decL n, wordB (x.toNat : Int) = true) ∧ (decL n).length ≤ 40 := by
  obtain ⟨b, l, e, _⟩ := digs1_cons false n hn
  have hw := digs1_word false 40 n
  unfold decL
  refine ⟨by rw [e]; simp, ?_, fun x hx => (hw x hx).1, ?_⟩
  · rw [e] at hw ⊢
    exact (hw b (by simp)).2 rfl
  · unfold digs1
    split
    · simp
    · exact digs_len _ _ _
theorem hex_facts (n : Nat) : hexL n ≠ [] ∧ digitB (hdI (hexL n)) = true ∧ (∀ x ∈ hexL n, wordB (x.toNat : Int) = true) ∧ (hexL n).length ≤ 42 := by
  have hw := digs1_word true 40 n
  unfold hexL
  refine ⟨by simp, (by decide : digitB 48 = true), fun x hx => ?_, ?_⟩
  · rcases List.mem_cons.1 hx with rfl | hx
    · decide
    · rcases List.mem_cons.1 hx with rfl | hx
      · decide
      · exact (hw x hx).1
  · simp only [List.length_cons]
    unfold digs1
    split
    · simp
    · have := digs_len true 40 n
      omega
theorem lexS_good (n : Nat) (hn : n ≤ 4294967295) : lexS (bs (40 :: (decL n ++ 32 :: hexL n))) = .ok [⟨5, 0, bs [40], 0⟩, ⟨1, 1, bs (decL n), n⟩, ⟨1, 1 + ((decL n).length : Int) + 1, bs (hexL n), n⟩, endT (1 + (decL n).length + 1 + (hexL n).length)] := by
  have h40 : n < 2 ^ 40 := by omega
  obtain ⟨d1, d2, d3, d4⟩ := dec_facts n h40
  obtain ⟨x1, x2, x3, x4⟩ := hex_facts n
  have nd := numL_dec h40 [] (.inl rfl)
  rw [List.append_nil, if_pos hn, if_pos rfl] at nd
  have nx := numL_hex h40 [] (.inl rfl)
  rw [List.append_nil, if_pos hn, if_pos rfl] at nx
  rw [lexS_of (by rw [bs_size]; simp; omega), bs_list]
  rw [lexL_sign (.inl rfl) (by simp) (fun x hx => by
    apply d3 x
    rw [List.take_append_of_le_length (by have := List.length_pos_iff.2 d1; omega)] at hx
    exact mem_take_of hx)]
  rw [num_one d1 d2 d3 nd (stops_blank (by decide)), lexL_blank (by decide)]
  have h2 := num_one x1 x2 x3 nx stops_nil (0 + 1 + (decL n).length + 1)
  rw [List.append_nil] at h2
  rw [h2, lexL_nil]
  simp [preL]
def badsL (n b : Nat) : List (List UInt8) := [decL b, hexL b, 48 :: decL n, decL n ++ [107], hexL n ++ [103], [48, 120]]
theorem bads_bad (n b : Nat) (hn : n ≤ 4294967295) (hb : 4294967295 < b) (hb2 : b < 2 ^ 40) : ∀ l ∈ badsL n b, BadNum l := by
  have h40 : n < 2 ^ 40 := by omega
  obtain ⟨d1, d2, d3, d4⟩ := dec_facts n h40
  obtain ⟨x1, x2, x3, x4⟩ := hex_facts n
  obtain ⟨d5, d6, d7, d8⟩ := dec_facts b hb2
  obtain ⟨x5, x6, x7, x8⟩ := hex_facts b
  intro l hl
  simp only [badsL, List.mem_cons, List.not_mem_nil, or_false] at hl
  rcases hl with rfl | rfl | rfl | rfl | rfl | rfl
  · refine ⟨d5, d6, d7, ?_, by omega⟩
    have := numL_dec hb2 [] (.inl rfl)
    rw [List.append_nil, if_neg (by omega)] at this
    exact this
  · refine ⟨x5, x6, x7, ?_, by omega⟩
    have := numL_hex hb2 [] (.inl rfl)
    rw [List.append_nil, if_neg (by omega)] at this
    exact this
  · refine ⟨by simp, (by decide : digitB 48 = true), fun x hx => ?_, numL_zero n h40, by simp; omega⟩
    rcases List.mem_cons.1 hx with rfl | hx
    · decide
    · exact d3 x hx
  · refine ⟨by simp, ?_, fun x hx => ?_, ?_, by simp; omega⟩
    · cases e : decL n with
      | nil => exact absurd e d1
      | cons c l => rw [e] at d2; exact d2
    · rcases List.mem_append.1 hx with hx | hx
      · exact d3 x hx
      · rw [List.mem_singleton.1 hx]; decide
    · have := numL_dec h40 [107] (.inr rfl)
      rw [if_pos hn, if_neg (by simp)] at this
      exact this
  · refine ⟨by simp, (by decide : digitB 48 = true), fun x hx => ?_, ?_, by simp; omega⟩
    · rcases List.mem_append.1 hx with hx | hx
      · exact x3 x hx
      · rw [List.mem_singleton.1 hx]; decide
    · have := numL_hex h40 [103] (.inr rfl)
      rw [if_pos hn, if_neg (by simp)] at this
      exact this
  · exact ⟨by simp, by decide, by decide, by decide, by decide⟩
theorem cell_bads (w : World) (L : List (List UInt8)) (j : Nat) {l : List UInt8} (h : L[j]? = some l) : (w.alloc (.cells (L.map fun l => Value.string (bs l)).toArray 9)).cell? ⟨w.heap.size, j, none⟩ = some (.string (bs l)) := by
  rw [World.cell?_alloc_new]
  simp [h]
theorem add_two (a b c : List UInt8) (h : a.length + b.length ≤ 1000) (e : a ++ b = c) (W : World) : (Op.stringOp .add (bs a) (bs b)).run Tryd.prog W = .ok (.string (bs c)) W :=
  add_strs (by rw [bs_size, bs_size]; omega) (by rw [bs_append, e]) W
set_option maxRecDepth 100000 in
set_option maxHeartbeats 3200000 in
theorem numbers_law (n0 more : Int) (m : Int) (w : World) (hn0 : 0 ≤ n0 ∧ n0 ≤ 4294967295) (hmo : 0 ≤ more ∧ more ≤ 4294967295) (hm : w.cell? ⟨0, 0, none⟩ = some (.int .i64 m)) :
    Calls Tryd.prog 7 #[.int .u32 n0, .int .u32 more] w fun e w' => e = .returned (.bool true) ∧ Below w.heap.size w w' := by
  obtain ⟨n, rfl⟩ : ∃ n : Nat, n0 = n := ⟨n0.toNat, by omega⟩
  obtain ⟨k, rfl⟩ : ∃ k : Nat, more = k := ⟨more.toNat, by omega⟩
  have hn : n ≤ 4294967295 := by omega
  have hk : k ≤ 4294967295 := by omega
  have i0 : (0 : Int) ≤ (n : Int) := by omega
  have i1 : (n : Int) ≤ 4294967295 := by omega
  have i2 : (0 : Int) ≤ (k : Int) := by omega
  have i3 : (k : Int) ≤ 4294967295 := by omega
  obtain ⟨d1, d2, d3, d4⟩ := dec_facts n (by omega)
  obtain ⟨x1, x2, x3, x4⟩ := hex_facts n
  have hgood := lexS_good n hn
  have hbads := bads_bad n (4294967296 + k) hn (by omega) (by omega)
  have hA1 := fun W => add_two [40] (decL n) (40 :: decL n) (by simp; omega) rfl W
  have hA2 := fun W => add_two (40 :: decL n) [32] (40 :: (decL n ++ [32])) (by simp; omega) rfl W
  have hA3 := fun W => add_two (40 :: (decL n ++ [32])) (hexL n) (40 :: (decL n ++ 32 :: hexL n)) (by simp; omega) (by simp) W
  have hA4 := fun W => add_two [48] (decL n) (48 :: decL n) (by simp; omega) rfl W
  have hA5 := fun W => add_two (decL n) [107] (decL n ++ [107]) (by simp; omega) rfl W
  have hA6 := fun W => add_two (hexL n) [103] (hexL n ++ [103]) (by simp; omega) rfl W
  have hd := fun W => decimal_any n W (by omega)
  have hx := fun W => hexs_any n W (by omega)
  have hdb := fun W => decimal_any (4294967296 + k) W (by omega)
  have hxb := fun W => hexs_any (4294967296 + k) W (by omega)
  rw [show ((4294967296 + k : Nat) : Int) = 4294967296 + (k : Int) from by omega] at hdb hxb
  have HA1 := Lib.hid hA1
  have HA2 := Lib.hid hA2
  have HA3 := Lib.hid hA3
  have HA4 := Lib.hid hA4
  have HA5 := Lib.hid hA5
  have HA6 := Lib.hid hA6
  have Hd := Lib.hid hd
  have Hx := Lib.hid hx
  have Hdb := Lib.hid hdb
  have Hxb := Lib.hid hxb
  have Hgood := Lib.hid hgood
  have Hbads := Lib.hid hbads
  have Hm := Lib.hid hm
  have hsz := Lib.hid (show (bs (40 :: (decL n ++ 32 :: hexL n))).size ≤ 4611686018427387904 by rw [bs_size]; simp; omega)
  clear hA1 hA2 hA3 hA4 hA5 hA6 hd hx hdb hxb hgood hbads hm d1 d2 d3 d4 x1 x2 x3 x4 hn hk hn0 hmo
  go_enter Tryd.func7, Tryd.ntmps7
  go_wp2_with fail
  refine (Hd.out _).mono ?_
  rintro e w1 ⟨rfl, hB1⟩
  have HB1 := Lib.hid hB1
  have e1 : ∀ W, (Op.stringOp .add ⟨#[40]⟩ (bs (decL n))).run Tryd.prog W = .ok (.string (bs (40 :: decL n))) W := HA1.out
  have e2 : ∀ W, (Op.stringOp .add (bs (40 :: decL n)) ⟨#[32]⟩).run Tryd.prog W = .ok (.string (bs (40 :: (decL n ++ [32])))) W := HA2.out
  clear hB1
  go_wp2_with fail
  refine (Hx.out _).mono ?_
  rintro e w2 ⟨rfl, hB2⟩
  have hB2 := HB1.out.trans (hB2.mono HB1.out.size)
  have HB2 := Lib.hid hB2
  have e3 : ∀ W, (Op.stringOp .add (bs (40 :: (decL n ++ [32]))) (bs (hexL n))).run Tryd.prog W = .ok (.string (bs (40 :: (decL n ++ 32 :: hexL n)))) W := HA3.out
  clear hB2 e1 e2
  go_wp2_with fail
  have c3 := lex_any _ m w2 hsz.out (max_later Hm.out HB2.out)
  refine c3.mono ?_
  intro e w3 h
  obtain ⟨g, d, rfl, hO, hB3⟩ := h.good Hgood.out
  have hrs := hO.is encT_ok
  obtain ⟨a0, a1, a2, a3⟩ := cells0 hrs (i := 1) rfl
  obtain ⟨b0, b1, b2, b3⟩ := cells0 hrs (i := 2) rfl
  simp only [Nat.one_mul, Nat.reduceMul, Nat.reduceAdd] at a0 a1 a2 a3 b0 b1 b2 b3
  have hg := (own_lt hO (b := g) rfl).2
  have hB3 := HB2.out.trans (hB3.mono HB2.out.size)
  have HBw3 := Lib.hid hB3
  clear hB3 hO hrs h c3 e3
  go_wp2_with fail
  clear a0 a1 a2 a3 b0 b1 b2 b3 hg
  refine (Hdb.out _).mono ?_
  rintro e w4 ⟨rfl, hB⟩
  have hB := HBw3.out.trans (hB.mono HBw3.out.size)
  have HBw4 := Lib.hid hB
  clear hB
  go_wp2_with fail
  refine (Hxb.out _).mono ?_
  rintro e w5 ⟨rfl, hB⟩
  have hB := HBw4.out.trans (hB.mono HBw4.out.size)
  have HBw5 := Lib.hid hB
  clear hB
  go_wp2_with fail
  refine (Hd.out _).mono ?_
  rintro e w6 ⟨rfl, hB⟩
  have hB := HBw5.out.trans (hB.mono HBw5.out.size)
  have HBw6 := Lib.hid hB
  clear hB
  have e4 : ∀ W, (Op.stringOp .add ⟨#[48]⟩ (bs (decL n))).run Tryd.prog W = .ok (.string (bs (48 :: decL n))) W := HA4.out
  go_wp2_with fail
  refine (Hd.out _).mono ?_
  rintro e w7 ⟨rfl, hB⟩
  have hB := HBw6.out.trans (hB.mono HBw6.out.size)
  have HBw7 := Lib.hid hB
  clear hB
  clear e4
  have e5 : ∀ W, (Op.stringOp .add (bs (decL n)) ⟨#[107]⟩).run Tryd.prog W = .ok (.string (bs (decL n ++ [107]))) W := HA5.out
  go_wp2_with fail
  refine (Hx.out _).mono ?_
  rintro e w8 ⟨rfl, hB⟩
  have hB := HBw7.out.trans (hB.mono HBw7.out.size)
  have HBw8 := Lib.hid hB
  clear hB
  clear e5
  have e6 : ∀ W, (Op.stringOp .add (bs (hexL n)) ⟨#[103]⟩).run Tryd.prog W = .ok (.string (bs (hexL n ++ [103]))) W := HA6.out
  go_wp2_with fail
  clear e6
  have HBl : Hid (Below w.heap.size w (w8.alloc (.cells ((badsL n (4294967296 + k)).map fun l => Value.string (bs l)).toArray 9))) := Lib.hid (HBw8.out.alloc HBw8.out.size _)
  have HCl : Hid (∀ j l, (badsL n (4294967296 + k))[j]? = some l → (w8.alloc (.cells ((badsL n (4294967296 + k)).map fun l => Value.string (bs l)).toArray 9)).cell? ⟨w8.heap.size, j, none⟩ = some (.string (bs l))) := Lib.hid fun j l h => cell_bads w8 _ j h
  have hlen : (badsL n (4294967296 + k)).length = 6 := rfl
  obtain ⟨W0, hW0⟩ : ∃ W, w8.alloc (.cells ((badsL n (4294967296 + k)).map fun l => Value.string (bs l)).toArray 9) = W := ⟨_, rfl⟩
  have hW1 : w8.alloc (.cells #[.string (bs (decL (4294967296 + k))), .string (bs (hexL (4294967296 + k))), .string (bs (48 :: decL n)), .string (bs (decL n ++ [107])), .string (bs (hexL n ++ [103])), .string ⟨#[48, 120]⟩] 9) = W0 := hW0
  obtain ⟨BL, hBL⟩ : ∃ b, w8.heap.size = b := ⟨_, rfl⟩
  have hBLW : BL < W0.heap.size := by rw [← hW0, ← hBL]; simp
  rw [hW0] at HBl HCl
  rw [hBL] at HCl
  obtain ⟨L, hL⟩ : ∃ L, badsL n (4294967296 + k) = L := ⟨_, rfl⟩
  rw [hL] at HCl Hbads hlen
  simp only [hW1, hBL]
  have Hlen := Lib.hid hlen
  clear hW0 hW1 hBL hL hlen
  go_loopg [10, 11, 12, 13] 6 (fun gk s10 s11 s12 s13 wr => ∃ i : Nat, i + gk = 6 ∧ s10 = .int .i64 i ∧ Below W0.heap.size W0 wr)
  case atStart => exact ⟨0, rfl, rfl, Below.refl _ _⟩
  case round =>
    obtain ⟨i, hi, rfl, hBr⟩ := hrel
    have j0 : (0 : Int) ≤ (i : Int) := by omega
    have hBw := HBl.out.trans (hBr.mono HBl.out.size)
    have HBw := Lib.hid hBw
    have HBr := Lib.hid hBr
    have hmr := max_later Hm.out hBw
    have Hmr := Lib.hid hmr
    clear hBw hBr hmr
    cases gk with
    | zero =>
      have j1 : ¬ (i : Int) < 6 := by omega
      have c6 := awake_any m wr Hmr.out
      have C6 := Lib.hid c6
      clear c6
      go_wp2_with fail
      refine C6.out.mono ?_
      rintro e w9 ⟨rfl, hB9⟩
      have HF := Lib.hid (HBw.out.trans (hB9.mono HBw.out.size))
      clear hB9
      go_wp2_with fail
      go_ret
      exact ⟨rfl, HF.out⟩
    | succ g1 =>
      have j1 : (i : Int) < 6 := by omega
      obtain ⟨l, hl⟩ : ∃ l, L[i]? = some l := ⟨_, List.getElem?_eq_getElem (by rw [Hlen.out]; omega)⟩
      have hbad := Hbads.out l (List.mem_of_getElem? hl)
      have hcell := (HBr.out.cell (p := ⟨BL, i, none⟩) hBLW).trans (HCl.out i l hl)
      have hadd : ∀ W, (Op.stringOp .add ⟨#[105, 112, 32, 91]⟩ (bs l)).run Tryd.prog W = .ok (.string (bs (105 :: 112 :: 32 :: 91 :: l))) W := fun W => add_two [105, 112, 32, 91] l _ (by have := hbad.len; simp; omega) rfl W
      have hlx := lexS_bad hbad
      have cl := lex_any (bs (105 :: 112 :: 32 :: 91 :: l)) m wr (by have := hbad.len; rw [bs_size]; simp; omega) Hmr.out
      have Hlx := Lib.hid hlx
      have Cl := Lib.hid cl
      clear hl hbad hlx cl
      go_wp2_with fail
      refine Cl.out.mono ?_
      intro e w9 h
      obtain ⟨rfl, hB9⟩ := h.bad Hlx.out
      have HB9 := Lib.hid (HBr.out.trans (hB9.mono HBr.out.size))
      clear hB9 h hcell hadd
      go_wp2_with fail
      go_roundg g1
      case measure => omega
      case rel => exact ⟨i + 1, by omega, by go_num, HB9.out⟩
end Go.Proofs.YtoknkgeojhekoaaDoor
