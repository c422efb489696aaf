/- Parse: a text's program. -/
import Derived.Test.YtckbcmoanadckaaDoorReadR
import Derived.Lib.IndexBytes
import Derived.Lib.IndexMore
namespace Go.Proofs.YtckbcmoanadckaaDoor
open Go.RowKit Go.Shelf Go.Deep
set_option linter.unusedVariables false
set_option linter.unusedSimpArgs false

/-- A text's lines. -/
def linesL : List UInt8 → List (List UInt8)
  | [] => []
  | b :: r => if b = 10 then [] :: linesL r else match linesL r with
    | [] => [[b]]
    | x :: xs => (b :: x) :: xs
theorem cut_nil : Lib.cut [] [10] = ([], [], false) := by decide
theorem cut_lf (r : List UInt8) : Lib.cut (10 :: r) [10] = ([], r, true) := by
  have h : Lib.index (10 :: r) [10] = 0 := by
    unfold Lib.index
    simp
  unfold Lib.cut
  rw [h]
  simp
theorem cut_cons {b : UInt8} (hb : ¬ b = 10) (r : List UInt8) : Lib.cut (b :: r) [10] = (b :: (Lib.cut r [10]).1, (Lib.cut r [10]).2.1, (Lib.cut r [10]).2.2) := by
  have h : Lib.index (b :: r) [10] = if Lib.index r [10] == -1 then -1 else Lib.index r [10] + 1 := by
    rw [Lib.index.eq_def]
    have : ([10] : List UInt8).isPrefixOf (b :: r) = false := by
      show ((10 : UInt8) == b && ([] : List UInt8).isPrefixOf r) = false
      rw [Bool.and_eq_false_iff]
      exact .inl (beq_eq_false_iff_ne.2 fun e => hb e.symm)
    simp only [this, Bool.false_eq_true, if_false]
  have hge := Lib.index_ge r [10]
  unfold Lib.cut
  rw [h]
  by_cases e : Lib.index r [10] = -1
  · rw [e]
    simp
  · have h0 : 0 ≤ Lib.index r [10] := by omega
    have h1 : (Lib.index r [10] == -1) = false := by simp [e]
    rw [h1]
    simp only [Bool.false_eq_true, if_false]
    rw [if_pos (by omega), if_pos h0]
    have h2 : (Lib.index r [10] + 1).toNat = (Lib.index r [10]).toNat + 1 := by omega
    rw [h2]
    simp [Nat.add_right_comm]
theorem linesL_cut : ∀ (l : List UInt8), l ≠ [] → linesL l = (Lib.cut l [10]).1 :: linesL (Lib.cut l [10]).2.1
  | b :: r, _ => by
    by_cases hb : b = 10
    · subst hb
      rw [cut_lf]
      rw [linesL.eq_def]
      simp
    · rw [cut_cons hb, linesL.eq_def]
      simp only [hb, if_false]
      cases r with
      | nil =>
        rw [cut_nil]
        rfl
      | cons c r =>
        rw [linesL_cut (c :: r) (by simp)]
theorem cut_len : ∀ (l : List UInt8), (Lib.cut l [10]).1.length + (Lib.cut l [10]).2.1.length ≤ l.length
  | [] => by rw [cut_nil]; simp
  | b :: r => by
    have := cut_len r
    by_cases hb : b = 10
    · subst hb
      rw [cut_lf]
      simp
    · rw [cut_cons hb]
      simp
      omega
/-- What Parse answers. -/
structure PR where
  prog : List Ins
  line : Nat
  err : Nat
def parseLs : List (List UInt8) → Nat → List Ins → PR
  | [], _, acc => ⟨acc, 0, 0⟩
  | x :: xs, n, acc => if 4096 < n then ⟨[], n, 32⟩ else match readL (rowsN 256) x with
    | none => ⟨[], n, 31⟩
    | some i => parseLs xs (n + 1) (acc ++ [i])
def parseL (l : List UInt8) : PR := if 1048576 < l.length then ⟨[], 0, 30⟩ else parseLs (linesL l) 1 []
theorem parseLs_nil (n : Nat) (acc : List Ins) : parseLs [] n acc = ⟨acc, 0, 0⟩ := rfl
theorem parseLs_many {n : Nat} (h : 4096 < n) (x : List UInt8) (xs : List (List UInt8)) (acc : List Ins) : parseLs (x :: xs) n acc = ⟨[], n, 32⟩ := by
  rw [parseLs.eq_def]
  simp only [h, if_true]
theorem parseLs_bad {n : Nat} (h : ¬ 4096 < n) {x : List UInt8} (xs : List (List UInt8)) (acc : List Ins) (hx : readL (rowsN 256) x = none) : parseLs (x :: xs) n acc = ⟨[], n, 31⟩ := by
  rw [parseLs.eq_def]
  simp only [h, if_false, hx]
theorem parseLs_good {n : Nat} (h : ¬ 4096 < n) {x : List UInt8} (xs : List (List UInt8)) (acc : List Ins) {i : Ins} (hx : readL (rowsN 256) x = some i) : parseLs (x :: xs) n acc = parseLs xs (n + 1) (acc ++ [i]) := by
  rw [parseLs.eq_def]
  simp only [h, if_false, hx]
theorem encN_ok : EncOk 4 encN := ⟨fun _ => rfl, fun a v hv => by
  simp only [encN, List.mem_cons, List.not_mem_nil, or_false] at hv
  rcases hv with rfl | rfl | rfl | rfl <;> rfl, by decide⟩
theorem infoInsn : (Tryd.prog.info? 25).map (fun i => (i.zero, i.size, i.bytes)) = some (some (.agg #[.int .u16 0, .int .u8 0, .int .u8 0, .int .u32 0]), 4, 8) := by kernel_rfl
theorem RowsAt.later {w W : World} {g n cap : Nat} {rs : List (List UInt8 × Nat)} (h : RowsAt w g n cap rs) (hb : Below w.heap.size w W) : RowsAt W g n cap rs := by
  obtain ⟨h1, vs, h2, h3⟩ := h
  refine ⟨h1, vs, own_below h2 hb, ⟨h3.len, fun i v r q1 q2 => ?_⟩⟩
  obtain ⟨pc, pf, k1, k2, k3, k4, k5⟩ := h3.row i v r q1 q2
  exact ⟨pc, pf, k1, (hb.cell (p := ⟨pc, 0, none⟩) (World.block_lt_of_cell? w _ k2)).trans k2, (hb.cell (p := ⟨pf, 0, none⟩) (World.block_lt_of_cell? w _ k3)).trans k3, k4, k5⟩
theorem cut_bytes (s : ByteArray) : Lib.cut s.data.toList (⟨#[10]⟩ : ByteArray).data.toList = Lib.cut s.data.toList [10] := rfl
set_option maxRecDepth 100000 in
set_option maxHeartbeats 3200000 in
theorem parse_any (s : ByteArray) (m : Int) (w : World) (hs : s.size ≤ 4611686018427387904) (hm : w.cell? ⟨0, 0, none⟩ = some (.int .i64 m)) (ht : Tab10 w) : Calls Tryd.prog 17 #[.string s] w fun e w' => ∃ v, e = .returned (.tuple #[v, .int .i64 (parseL s.data.toList).line, .int .i64 (parseL s.data.toList).err]) ∧ OwnG 4 encN 25 w' w.heap.size v (parseL s.data.toList).prog ∧ Below w.heap.size w w' := by
  obtain ⟨R, hR⟩ : ∃ R, parseL s.data.toList = R := ⟨_, rfl⟩
  rw [hR]
  obtain ⟨i0, hi0, hz0, hz1, hz2⟩ := info_parts infoInsn
  have Hi0 := Lib.hid hi0
  have Hz0 := Lib.hid hz0
  have Hz1 := Lib.hid hz1
  have Hz2 := Lib.hid hz2
  have HT := Lib.hid ht
  have Hm := Lib.hid hm
  have s0 : (0 : Int) ≤ (s.size : Int) := by omega
  have Hs := Lib.hid (size_list s)
  unfold parseL at hR
  rw [size_list] at hR
  clear hi0 hz0 hz1 hz2 ht hm
  by_cases hbig : 1048576 < s.size
  · have b1 : (s.size : Int) > 1048576 := by omega
    rw [if_pos hbig] at hR
    have HR := Lib.hid hR.symm
    clear hR hbig
    go_enter Tryd.func17, Tryd.ntmps17
    go_wp2_with fail
    go_ret3
    rw [HR.out]
    exact ⟨_, rfl, own_nil _ _ _ _, Below.refl _ _⟩
  · have b1 : ¬ (s.size : Int) > 1048576 := by omega
    rw [if_neg hbig] at hR
    have HR := Lib.hid hR
    have Hsz : Hid (s.size ≤ 1048576) := Lib.hid (by omega)
    clear hR hbig
    go_enter Tryd.func17, Tryd.ntmps17
    have cro := rows_any w
    have Cro := Lib.hid cro
    clear cro
    go_wp2_with fail
    refine Cro.out.mono ?_
    rintro e w1 ⟨gr, nr, cr, rfl, hra, hB1⟩
    have HRA := Lib.hid hra
    have HB1 := Lib.hid hB1
    have HS1 := Lib.hid hB1.size
    clear hra hB1
    go_wp2_with fail
    go_loopg [0, 6, 7] (linesL s.data.toList).length (fun g t0 t6 t7 wr => ∃ (r : ByteArray) (acc : List Ins) (A : Option Addr) (c k : Nat), k = acc.length + 1 ∧ t0 = .string r ∧ t6 = .slice A acc.length c ∧ t7 = .int .i64 k ∧ r.size ≤ 1048576 ∧ acc.length ≤ 4096 ∧ (linesL r.data.toList).length = g ∧ Aside (parseLs (linesL r.data.toList) k acc = R) ∧ OwnG 4 encN 25 wr w1.heap.size (.slice A acc.length c) acc ∧ Below w1.heap.size w1 wr)
    case atStart => exact ⟨s, [], none, 0, 1, rfl, rfl, rfl, rfl, Hsz.out, by decide, rfl, HR.out, own_nil _ _ _ _, Below.refl _ _⟩
    case round =>
      obtain ⟨r, acc, A, c, k, hk, rfl, rfl, rfl, hrs, hal, hg, hA, hO, hB⟩ := hrel
      have HO := Lib.hid hO
      have HB := Lib.hid hB
      have Hg := Lib.hid hg
      have HSr := Lib.hid hB.size
      have k0 : (0 : Int) ≤ (k : Int) := by omega
      have k9 : (k : Int) ≤ 4097 := by omega
      have Hk := Lib.hid hk
      clear hO hB hg hk
      cases gk with
      | zero =>
        have e0 : r.data.toList = [] := by
          have h := Hg.out
          by_cases e : r.data.toList = []
          · exact e
          · rw [linesL_cut _ e] at h
            simp at h
        have e1 : r.toList.isEmpty = true := by rw [ByteArray.toList_eq, e0]; rfl
        have hR := hA.out
        rw [e0] at hR
        have HRv := Lib.hid hR.symm
        clear hR hA e0
        go_wp2_with fail
        go_ret3
        rw [HRv.out]
        exact ⟨_, rfl, own_mono HO.out HS1.out, HB1.out.trans (HB.out.mono HS1.out)⟩
      | succ g =>
        have e0 : r.data.toList ≠ [] := by
          intro e
          have h := Hg.out
          rw [e] at h
          cases h
        have e1 : r.toList.isEmpty = false := by
          rw [ByteArray.toList_eq]
          cases h : r.data.toList with
          | nil => exact absurd h e0
          | cons a b => rfl
        have cc := Tryd.strings_Cut r ⟨#[10]⟩ m wr (by omega) (((HB1.out.trans (HB.out.mono HS1.out)).cell (p := ⟨0, 0, none⟩) (World.block_lt_of_cell? w _ Hm.out)).trans Hm.out)
        rw [cut_bytes] at cc
        have hcl := cut_len r.data.toList
        rw [size_list] at hcl
        have hln := linesL_cut r.data.toList e0
        have hA2 := hA.out
        have hg2 := Hg.out
        rw [hln] at hA2 hg2
        obtain ⟨T, hT⟩ : ∃ T, Lib.cut r.data.toList [10] = T := ⟨_, rfl⟩
        rw [hT] at cc hcl hA2 hg2
        obtain ⟨x, rest, fl⟩ := T
        have hg3 : (linesL rest).length = g := Nat.succ.inj hg2
        have hx9 : x.length ≤ 1048576 := by simp only at hcl; omega
        have hr9 : (bs rest).size ≤ 1048576 := by rw [bs_size]; simp only at hcl; omega
        have Cc := Lib.hid (show Calls Tryd.prog 39 #[.string r, .string ⟨#[10]⟩] wr fun e w' => e = .returned (.tuple #[.string (bs x), .string (bs rest), .bool fl]) ∧ ∃ n, w' = wr.drewN n from cc)
        have HA2 := Lib.hid (show parseLs (x :: linesL rest) k acc = R from hA2)
        have Hg3 := Lib.hid hg3
        have Hr9 := Lib.hid hr9
        have Hx9 := Lib.hid hx9
        clear cc hcl hln hA2 hg2 hT hg3 hr9 hx9 hA e0
        by_cases hmany : 4096 < k
        · have k1 : (k : Int) > 4096 := by omega
          have hR := HA2.out
          rw [parseLs_many hmany] at hR
          have HRv := Lib.hid hR.symm
          clear hR hmany
          go_wp2_with fail
          refine Cc.out.mono ?_
          rintro e w2 ⟨rfl, nn, rfl⟩
          go_wp2_with fail
          go_ret3
          rw [HRv.out]
          exact ⟨_, rfl, own_nil _ _ _ _, belowN (HB1.out.trans (HB.out.mono HS1.out)) _⟩
        · have k1 : ¬ (k : Int) > 4096 := by omega
          have Hmany := Lib.hid hmany
          have hr := fun nn => read_any gr nr cr (bs x) (wr.drewN nn) (by have := Hx9.out; rw [bs_size]; omega) ((HRA.out.later HB.out).later (belowN (Below.refl _ _) nn)) ((HT.out.later (HB1.out.trans (HB.out.mono HS1.out))).later (belowN (Below.refl _ _) nn))
          simp only [bs_list] at hr
          cases hrd : readL (rowsN 256) x with
          | none =>
            rw [hrd] at hr
            have Hr := Lib.hid hr
            have hR := HA2.out
            rw [parseLs_bad Hmany.out _ _ hrd] at hR
            have HRv := Lib.hid hR.symm
            clear hR hmany hr hrd
            go_wp2_with fail
            refine Cc.out.mono ?_
            rintro e w2 ⟨rfl, nn, rfl⟩
            go_wp2_with fail
            refine (Hr.out nn).mono ?_
            rintro e w3 ⟨rfl, hB3⟩
            have HB3 := Lib.hid ((belowN (HB1.out.trans (HB.out.mono HS1.out)) nn).trans (hB3.mono (Nat.le_trans HS1.out HSr.out)))
            clear hB3
            go_wp2_with fail
            go_ret3
            rw [HRv.out]
            exact ⟨_, rfl, own_nil _ _ _ _, HB3.out.alloc HB3.out.size _⟩
          | some i =>
            rw [hrd] at hr
            have Hr := Lib.hid hr
            have hR := HA2.out
            rw [parseLs_good Hmany.out _ _ hrd] at hR
            have HRv := Lib.hid hR
            have hal2 : acc.length + 1 ≤ 4096 := by have := Hk.out; omega
            clear hR hmany hr hrd
            go_wp2_with fail
            refine Cc.out.mono ?_
            rintro e w2 ⟨rfl, nn, rfl⟩
            go_wp2_with fail
            refine (Hr.out nn).mono ?_
            rintro e w3 ⟨rfl, hB3⟩
            have hB3 : Below wr.heap.size (wr.drewN nn) w3 := hB3
            have hBr : Below wr.heap.size wr w3 := (belowN (Below.refl _ _) nn).trans hB3
            have hs3 : w1.heap.size ≤ w3.heap.size := Nat.le_trans HSr.out hBr.size
            have HBr := Lib.hid hBr
            have HS3 := Lib.hid hs3
            have HO2 := Lib.hid (show ((w3.alloc (objN i)).alloc (.cells (flatG encN [i]).toArray 25)).ownsRow w1.heap.size 25 4 (.slice A acc.length c) acc.length (flatG encN acc) from own_below HO.out ((hBr.alloc hBr.size _).alloc (by have := hBr.size; simp; omega) _))
            have hx := heap_alloc_new (w3.alloc (objN i)) (.cells (flatG encN [i]).toArray 25)
            have Hx := Lib.hid (rs_news hx)
            clear hB3 hBr hs3 hx
            go_wp2_with (at_builtin; refine wpList_append_lies _ rfl _ _ 29 rfl w1.heap.size 25 i0 (.agg #[.int .u16 0, .int .u8 0, .int .u8 0, .int .u32 0]) 4 8 Tryd.underlying29 Hi0.out Hz0.out Hz1.out Hz2.out rfl (by decide) (.slice A acc.length c) acc.length (flatG encN acc) rfl HO2.out ⟨(w3.alloc (objN i)).heap.size, 0, none⟩ 1 1 (flatG encN [i]) (by simp [go_sem]) rfl Hx.out (flatG_one encN_ok _) (by decide) (by simp only [maxLen]; omega) (by omega) (by have := HS3.out; simp; omega) (w3.heap.size + 2) (by simp) ?_; intro g2 cap w5 hown2 hgrow hat hlt)
            have HF := Lib.hid (And.intro hown2 hgrow)
            clear hown2 hgrow hat hlt
            go_roundg g
            case measure => omega
            case rel => exact ⟨bs rest, acc ++ [i], some ⟨g2, 0, none⟩, cap, k + 1, by rw [List.length_append, Hk.out]; rfl, rfl, by rw [List.length_append]; rfl, by go_num, Hr9.out, by rw [List.length_append]; exact hal2, by rw [bs_list]; exact Hg3.out, by
                show _ = _
                rw [bs_list]
                exact HRv.out, by
                unfold OwnG
                rw [List.length_append, flatG_append]
                exact HF.out.1, ((HB.out.trans (HBr.out.mono HSr.out)).alloc HS3.out _).alloc (by have := HS3.out; simp; omega) _ |>.grown HF.out.2 (by have := HS3.out; simp; omega) (fun b e => (own_lt HO.out e).1)⟩
end Go.Proofs.YtckbcmoanadckaaDoor
