/- rows: the readers, in their order. -/
import Derived.Test.YtckbcmoanadckaaDoorRead2
import Derived.Test.YtckbcmoanadckaaDoorLine
import Derived.Deep.AppendLies
import Derived.Great.BuildSlice
namespace Go.Proofs.YtckbcmoanadckaaDoor
open Go.RowKit Go.Shelf Go.Deep
set_option linter.unusedVariables false
set_option linter.unusedSimpArgs false

abbrev cloV (pc pf : Nat) : Value := .func (.func 64) #[] #[.pointer (some ⟨pc, 0, none⟩), .pointer (some ⟨pf, 0, none⟩)]
set_option maxRecDepth 100000 in
theorem reader_any (s : ByteArray) (code : Nat) (w : World) : Calls Tryd.prog 56 #[.string s, .int .u16 code] w fun e w' => ∃ pc pf, e = .returned (cloV pc pf) ∧ w.heap.size ≤ pc ∧ w.heap.size ≤ pf ∧ w'.cell? ⟨pc, 0, none⟩ = some (.int .u16 code) ∧ w'.cell? ⟨pf, 0, none⟩ = some (.string s) ∧ Below w.heap.size w w' := by
  go_enter Tryd.func56, Tryd.ntmps56
  go_wp2_with fail
  go_ret
  exact ⟨_, _, rfl, by simp, by simp, by simp [go_sem], by simp [go_sem], ((Below.refl _ w).alloc (Nat.le_refl _) _).alloc (by simp) _⟩
/-- A row, laid; not in block g. -/
def RowV (w : World) (g : Nat) (v : Value) (r : List UInt8 × Nat) : Prop := ∃ pc pf, v = cloV pc pf ∧ w.cell? ⟨pc, 0, none⟩ = some (.int .u16 r.2) ∧ w.cell? ⟨pf, 0, none⟩ = some (.string (bs r.1)) ∧ pc ≠ g ∧ pf ≠ g
theorem RowV.later {w W : World} {g G : Nat} {v : Value} {r : List UInt8 × Nat} (h : RowV w g v r) (hb : ∀ b, b < w.heap.size → b ≠ g → W.heap[b]? = w.heap[b]? ∧ b ≠ G) : RowV W G v r := by
  obtain ⟨pc, pf, h1, h2, h3, h4, h5⟩ := h
  obtain ⟨q1, q2⟩ := hb pc (World.block_lt_of_cell? w _ h2) h4
  obtain ⟨q3, q4⟩ := hb pf (World.block_lt_of_cell? w _ h3) h5
  exact ⟨pc, pf, h1, (World.cell?_of_block q1).trans h2, (World.cell?_of_block q3).trans h3, q2, q4⟩
def rowsN (c : Nat) : List (List UInt8 × Nat) := (rawL, 0) :: ((List.range c).filter knownB).map fun c => (formL c, c)
theorem rowsN_no {c : Nat} (h : knownB c = false) : rowsN (c + 1) = rowsN c := by
  unfold rowsN
  rw [List.range_succ, List.filter_append]
  simp [h]
theorem rowsN_yes {c : Nat} (h : knownB c = true) : rowsN (c + 1) = rowsN c ++ [(formL c, c)] := by
  unfold rowsN
  rw [List.range_succ, List.filter_append]
  simp [h]
theorem rowsN_len (c : Nat) : (rowsN c).length ≤ c + 1 := by
  unfold rowsN
  have := List.length_filter_le knownB (List.range c)
  rw [List.length_range] at this
  simp
  exact this
theorem infoRow : (Tryd.prog.info? 82).map (fun i => (i.zero, i.size, i.bytes)) = some (some (.agg #[.nilFunc]), 1, 8) := by kernel_rfl
/-- The rows, laid in a slice. -/
structure Rowz (w : World) (g : Nat) (vs : List Value) (rs : List (List UInt8 × Nat)) : Prop where
  len : vs.length = rs.length
  row : ∀ (i : Nat) (v : Value) (r : List UInt8 × Nat), vs[i]? = some v → rs[i]? = some r → RowV w g v r
theorem Rowz.later {w W : World} {g G : Nat} {vs : List Value} {rs : List (List UInt8 × Nat)} (h : Rowz w g vs rs) (hb : ∀ b, b < w.heap.size → b ≠ g → W.heap[b]? = w.heap[b]? ∧ b ≠ G) : Rowz W G vs rs :=
  ⟨h.len, fun i v r h1 h2 => (h.row i v r h1 h2).later hb⟩
theorem Rowz.snoc {w : World} {g : Nat} {vs : List Value} {rs : List (List UInt8 × Nat)} (h : Rowz w g vs rs) {v : Value} {r : List UInt8 × Nat} (hv : RowV w g v r) : Rowz w g (vs ++ [v]) (rs ++ [r]) := by
  refine ⟨by simp [h.len], fun i v' r' h1 h2 => ?_⟩
  rcases Nat.lt_or_ge i vs.length with hlt | hge
  · rw [List.getElem?_append_left hlt] at h1
    rw [List.getElem?_append_left (by rw [← h.len]; exact hlt)] at h2
    exact h.row i v' r' h1 h2
  · rw [List.getElem?_append_right hge] at h1
    rw [List.getElem?_append_right (by rw [← h.len]; exact hge), ← h.len] at h2
    obtain ⟨k, hk⟩ : ∃ k, i - vs.length = k := ⟨_, rfl⟩
    rw [hk] at h1 h2
    match k, h1, h2 with
    | 0, h1, h2 =>
      simp at h1 h2
      subst h1 h2
      exact hv
def RowsAt (w : World) (g n cap : Nat) (rs : List (List UInt8 × Nat)) : Prop := n = rs.length ∧ ∃ vs, w.ownsRow 0 82 1 (.slice (some ⟨g, 0, none⟩) n cap) n vs ∧ Rowz w g vs rs
set_option maxRecDepth 100000 in
set_option maxHeartbeats 3200000 in
theorem rows_any (w : World) : Calls Tryd.prog 38 #[] w fun e w' => ∃ g n cap, e = .returned (.slice (some ⟨g, 0, none⟩) n cap) ∧ RowsAt w' g n cap (rowsN 256) ∧ Below w.heap.size w w' := by
  obtain ⟨i0, hi0, hz0, hz1, hz2⟩ := info_parts infoRow
  have Hi0 := Lib.hid hi0
  have Hz0 := Lib.hid hz0
  have Hz1 := Lib.hid hz1
  have Hz2 := Lib.hid hz2
  clear hi0 hz0 hz1 hz2
  go_enter Tryd.func38, Tryd.ntmps38
  go_wp2_with (go_at_call 56; refine (reader_any (bs rawL) 0 _).mono ?_)
  rintro e w1 ⟨pc, pf, rfl, hpc, hpf, hc, hf, hB1⟩
  have hlc := World.block_lt_of_cell? w1 _ hc
  have hlf := World.block_lt_of_cell? w1 _ hf
  have Hst := Lib.hid (And.intro hc (And.intro hf (And.intro hB1 (And.intro hlc hlf))))
  clear hc hf hB1 hlc hlf hpc hpf
  go_wp2_with fail
  go_loopg [1, 2] 256 (fun g s1 s2 wr => ∃ (c blk n cap : Nat), c + g = 256 ∧ s1 = .slice (some ⟨blk, 0, none⟩) n cap ∧ s2 = .int .u16 c ∧ n = (rowsN c).length ∧ (∃ vs, wr.ownsRow w.heap.size 82 1 (.slice (some ⟨blk, 0, none⟩) n cap) n vs ∧ Rowz wr blk vs (rowsN c)) ∧ Below w.heap.size w wr)
  case atStart =>
    obtain ⟨hc, hf, hB1, hlc, hlf⟩ := Hst.out
    refine ⟨0, w1.heap.size, 1, 1, rfl, rfl, rfl, rfl, ⟨[cloV pc pf], ?_, ?_⟩, hB1.alloc hB1.size _⟩
    · exact ⟨rfl, .inr ⟨_, 1, #[cloV pc pf], rfl, hB1.size, heap_alloc_new w1 _, by decide, by decide, rfl, rfl⟩⟩
    · refine ⟨rfl, fun i v r h1 h2 => ?_⟩
      match i, h1, h2 with
      | 0, h1, h2 =>
        simp at h1
        have h2 : (rawL, 0) = r := by simpa [rowsN] using h2
        subst h1 h2
        have q := (Below.refl w1.heap.size w1).alloc (Nat.le_refl _) (.cells #[cloV pc pf] 82)
        exact ⟨pc, pf, rfl, (q.cell (p := ⟨pc, 0, none⟩) hlc).trans hc, (q.cell (p := ⟨pf, 0, none⟩) hlf).trans hf, Nat.ne_of_lt hlc, Nat.ne_of_lt hlf⟩
  case round =>
    obtain ⟨c, blk, n, cap, hcg, rfl, rfl, hn, ⟨vs, hown, hrow⟩, hB⟩ := hrel
    have c0 : (0 : Int) ≤ (c : Int) := by omega
    have HO := Lib.hid hown
    have HR := Lib.hid hrow
    have HB := Lib.hid hB
    have Hn := Lib.hid hn
    have hlen := rowsN_len c
    have HS := Lib.hid hB.size
    have c2 : (c : Int) ≤ 256 := by omega
    have n0 : (0 : Int) ≤ (n : Int) := by omega
    have n1 : n ≤ 257 := by omega
    clear hown hrow hB hn hlen
    cases gk with
    | zero =>
      have c1 : ¬ (c : Int) < 256 := by omega
      have hc : c = 256 := by omega
      have Hc := Lib.hid hc
      clear hc hcg
      go_wp2_with fail
      go_ret
      have h1 := HR.out
      have h2 := Hn.out
      rw [Hc.out] at h1 h2
      exact ⟨blk, n, cap, rfl, ⟨h2, vs, own_mono HO.out (Nat.zero_le _), h1⟩, HB.out⟩
    | succ g =>
      have c1 : (c : Int) < 256 := by omega
      have ck := known_any c wr
      cases hk : knownB c with
      | false =>
        rw [hk] at ck
        have Ck := Lib.hid ck
        have Hk := Lib.hid hk
        clear ck hk
        go_wp2_with fail
        refine Ck.out.mono ?_
        rintro e w2 ⟨rfl, rfl⟩
        go_wp2_with fail
        go_roundg g
        case measure => omega
        case rel => exact ⟨c + 1, blk, n, cap, by omega, rfl, by go_num, by rw [rowsN_no Hk.out]; exact Hn.out, by rw [rowsN_no Hk.out]; exact ⟨vs, HO.out, HR.out⟩, HB.out⟩
      | true =>
        rw [hk] at ck
        have Ck := Lib.hid ck
        have Hk := Lib.hid hk
        have cf := form_any c wr hk
        have Cf := Lib.hid cf
        clear ck hk cf
        go_wp2_with fail
        refine Ck.out.mono ?_
        rintro e w2 ⟨rfl, rfl⟩
        go_wp2_with fail
        refine Cf.out.mono ?_
        rintro e w3 ⟨rfl, hB3⟩
        have HB3 := Lib.hid hB3
        clear hB3
        go_wp2_with (go_at_call 56; refine (reader_any (bs (formL c)) c _).mono ?_)
        rintro e w4 ⟨pc4, pf4, rfl, hpc4, hpf4, hc4, hf4, hB4⟩
        have hlc4 := World.block_lt_of_cell? w4 _ hc4
        have hlf4 := World.block_lt_of_cell? w4 _ hf4
        have hBt : Below wr.heap.size wr w4 := HB3.out.trans (hB4.mono HB3.out.size)
        have hs4 : w.heap.size ≤ w4.heap.size := Nat.le_trans HS.out hBt.size
        have HO4 := Lib.hid (show (w4.alloc (.cells #[cloV pc4 pf4] 82)).ownsRow w.heap.size 82 1 (.slice (some ⟨blk, 0, none⟩) n cap) n vs from own_below HO.out (hBt.alloc hBt.size _))
        have hx := heap_alloc_new w4 (.cells #[cloV pc4 pf4] 82)
        have hnews : ∀ j u, [cloV pc4 pf4][j]? = some u → (w4.alloc (.cells #[cloV pc4 pf4] 82)).cell? ((⟨w4.heap.size, 0, none⟩ : Addr).add j) = some u := by
          intro j u hj
          match j, hj with
          | 0, hj =>
            simp at hj
            subst hj
            exact cell_of_row _ _ 0 _ _ _ hx
        have Hnews := Lib.hid hnews
        have Hc4 := Lib.hid (And.intro hc4 (And.intro hf4 (And.intro hlc4 (And.intro hlf4 (And.intro hpc4 hpf4)))))
        have HBt := Lib.hid hBt
        have Hs4 := Lib.hid hs4
        clear hx hnews hc4 hf4 hlc4 hlf4 hpc4 hpf4 hBt hs4 hB4
        go_wp2_with (at_builtin; refine wpList_append_lies _ rfl _ _ 64 rfl w.heap.size 82 i0 (.agg #[.nilFunc]) 1 8 Tryd.underlying64 Hi0.out Hz0.out Hz1.out Hz2.out rfl (by decide) (.slice (some ⟨blk, 0, none⟩) n cap) n vs rfl HO4.out ⟨w4.heap.size, 0, none⟩ 1 1 [cloV pc4 pf4] rfl rfl Hnews.out (by intro u hu; simp at hu; subst hu; rfl) (by decide) (by simp only [maxLen]; omega) (by omega) (by have := Hs4.out; simp; omega) (w4.heap.size + 1) (by simp) ?_; intro g2 cap2 w5 hown2 hgrow hat hlt)
        have Hf := Lib.hid (And.intro hown2 (And.intro hgrow (And.intro hat hlt)))
        clear hown2 hgrow hat hlt
        go_roundg g
        case measure => omega
        case rel =>
          obtain ⟨hown2, hgrow, hat, hlt⟩ := Hf.out
          obtain ⟨hc4, hf4, hlc4, hlf4, hpc4, hpf4⟩ := Hc4.out
          have hbt := HBt.out
          have hob := own_lt HO.out (b := blk) rfl
          have hst := hbt.size
          have hs3 := HB3.out.size
          have hs4 := Hs4.out
          have hs0 := HS.out
          have hkeep : ∀ b, b < w4.heap.size → b ≠ blk → w5.heap[b]? = w4.heap[b]? := fun b hb hne => by
            rw [hgrow.block b (by simp; omega) (by intro e; exact hne (Option.some.inj e)), Lib.alloc_old w4 _ b hb]
          have hg2 : ∀ b, b < w4.heap.size → b ≠ blk → b ≠ g2 := fun b hb hne => by
            rcases hat with h | h
            · have : blk = g2 := Option.some.inj h
              omega
            · omega
          refine ⟨c + 1, g2, n + 1, cap2, by omega, by go_num, by go_num, ?_, ?_, ?_⟩
          · rw [rowsN_yes Hk.out, List.length_append, ← Hn.out]
            rfl
          · rw [rowsN_yes Hk.out]
            refine ⟨_, hown2, (HR.out.later fun b hb hne => ⟨?_, ?_⟩).snoc ⟨pc4, pf4, rfl, ?_, ?_, ?_, ?_⟩⟩
            · rw [hkeep b (by omega) hne]
              exact hbt.block b hb
            · exact hg2 b (by omega) hne
            · exact (World.cell?_of_block (hkeep pc4 hlc4 (by omega))).trans hc4
            · exact (World.cell?_of_block (hkeep pf4 hlf4 (by omega))).trans hf4
            · exact hg2 pc4 hlc4 (by omega)
            · exact hg2 pf4 hlf4 (by omega)
          · exact ((HB.out.trans (hbt.mono hs0)).alloc hs4 _).grown hgrow (by simp; omega) (fun k e => (own_lt HO.out e).1)
end Go.Proofs.YtckbcmoanadckaaDoor
