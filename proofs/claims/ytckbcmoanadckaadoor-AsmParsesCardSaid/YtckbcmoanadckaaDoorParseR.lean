/- The document's Parse. -/
import Derived.Test.YtckbcmoanadckaaDoorLinesR
import Derived.Test.YtckbcmoanadckaaDoorReadW
namespace Go.Proofs.YtckbcmoanadckaaDoor
open Go.RowKit Go.Shelf Go.Deep
set_option linter.unusedVariables false
set_option linter.unusedSimpArgs false

set_option maxRecDepth 100000 in
set_option maxHeartbeats 3200000 in
theorem rparse_any (s : ByteArray) (w : World) (hs : s.size ≤ 4611686018427387904) : Calls Tryd.prog 16 #[.string s] w fun e w' => ∃ v, e = .returned (.tuple #[v, .int .i64 (parseL s.data.toList).line, .int .i64 (parseL s.data.toList).err]) ∧ OwnG 4 encN 25 w' w.heap.size v (parseL s.data.toList).prog ∧ Below w.heap.size w w' := by
  obtain ⟨R, hR⟩ : ∃ R, parseL s.data.toList = R := ⟨_, rfl⟩
  rw [hR]
  obtain ⟨i0, hi0, hz0, hz1, hz2⟩ := info_parts infoInsn
  have Hi0 := Lib.hid hi0
  have Hz0 := Lib.hid hz0
  have Hz1 := Lib.hid hz1
  have Hz2 := Lib.hid hz2
  have s0 : (0 : Int) ≤ (s.size : Int) := by omega
  unfold parseL at hR
  rw [size_list] at hR
  clear hi0 hz0 hz1 hz2
  by_cases hbig : 1048576 < s.size
  · have b1 : (s.size : Int) > 1048576 := by omega
    rw [if_pos hbig] at hR
    have HR := Lib.hid hR.symm
    clear hR hbig
    go_enter Tryd.func16, Tryd.ntmps16
    go_wp2_with fail
    go_ret3
    rw [HR.out]
    exact ⟨_, rfl, own_nil _ _ _ _, Below.refl _ _⟩
  · have b1 : ¬ (s.size : Int) > 1048576 := by omega
    rw [if_neg hbig] at hR
    have HR := Lib.hid hR
    have Hsz : Hid (s.size ≤ 1048576) := Lib.hid (by omega)
    have cl := rlines_any s w (by omega)
    have Cl := Lib.hid cl
    clear hR hbig cl
    go_enter Tryd.func16, Tryd.ntmps16
    go_wp2_with fail
    refine Cl.out.mono ?_
    rintro e w1 ⟨v1, rfl, L, hL, hL9, hLs, hown1, hB1⟩
    obtain ⟨A1, c1, rfl, hRL⟩ := OwnG.rs encB_ok hown1
    have HRL := Lib.hid hRL
    have HB1 := Lib.hid hB1
    have HS1 := Lib.hid hB1.size
    have HL := Lib.hid hL
    have HLs := Lib.hid hLs
    have HL9 := Lib.hid hL9
    have n9 : L.length ≤ 1048576 := Nat.le_trans hL9 Hsz.out
    clear hRL hB1 hL hLs hL9 hown1
    go_wp2_with fail
    go_loopg [6, 7] L.length (fun g t6 t7 wr => ∃ (acc : List Ins) (A : Option Addr) (c n k : Nat), k + g = L.length ∧ t6 = .slice A n c ∧ t7 = .int .i64 k ∧ k ≤ 4096 ∧ n = k ∧ Aside (acc.length = n) ∧ Aside (parseLs (ls (L.drop k)) (k + 1) acc = R) ∧ wr.ownsRow w1.heap.size 25 4 (.slice A n c) n (flatG encN acc) ∧ Below w1.heap.size w1 wr)
    case atStart => exact ⟨[], none, 0, 0, 0, by omega, rfl, rfl, by omega, rfl, by
        show _ = _
        rfl, by
        show _ = _
        rw [List.drop_zero, HL.out]
        exact HR.out, own_nil _ _ _ _, Below.refl _ _⟩
    case round =>
      obtain ⟨acc, A, c, n, k, hk, rfl, rfl, hk9, rfl, hal, hA, hO, hB⟩ := hrel
      have HO := Lib.hid hO
      have HB := Lib.hid hB
      have Hal := Lib.hid hal.out
      have HSr := Lib.hid hB.size
      have k0 : (0 : Int) ≤ (n : Int) := by omega
      have k9 : (n : Int) ≤ 4096 := by omega
      clear hO hB hal
      cases gk with
      | zero =>
        have k1 : ¬ (n : Int) < (L.length : Int) := by omega
        have hR := hA.out
        rw [List.drop_of_length_le (by omega)] at hR
        have HRv := Lib.hid (show R = ⟨acc, 0, 0⟩ from hR.symm)
        clear hR hA
        go_wp2_with fail
        go_ret3
        rw [HRv.out]
        refine ⟨_, rfl, ?_, HB1.out.trans (HB.out.mono HS1.out)⟩
        have := own_mono HO.out HS1.out
        unfold OwnG
        rw [Hal.out]
        exact this
      | succ g =>
        have k1 : (n : Int) < (L.length : Int) := by omega
        have hkl : n < L.length := by omega
        obtain ⟨b1', o1, rfl, -⟩ := HRL.out (by omega)
        obtain ⟨x, hx⟩ : ∃ x, L[n]? = some x := ⟨_, List.getElem?_eq_getElem hkl⟩
        have hcell := (HRL.out.later HB.out).cell encB_ok hx (j := 0) rfl
        simp only [Nat.mul_one, Nat.add_zero] at hcell
        have hdr : L.drop n = x :: L.drop (n + 1) := by
          rw [List.drop_eq_getElem_cons hkl]
          rw [List.getElem?_eq_getElem hkl] at hx
          rw [Option.some.inj hx]
        have hA2 := hA.out
        rw [hdr] at hA2
        have hxz := HLs.out x (List.mem_of_getElem? hx)
        have HA2 := Lib.hid (show parseLs (x.data.toList :: ls (L.drop (n + 1))) (n + 1) acc = R from hA2)
        have cr := rread_any x wr (by have := Hsz.out; omega)
        rw [rread_eq] at cr
        clear hA2 hA hdr hx hxz hkl
        by_cases hmany : n = 4096
        · have d1 : ((n : Int) == 4096) = true := beq_iff_eq.2 (by omega)
          have hR := HA2.out
          rw [parseLs_many (by omega)] at hR
          have HRv := Lib.hid hR.symm
          clear hR hmany cr
          go_wp2_with fail
          go_ret3
          rw [HRv.out]
          exact ⟨_, rfl, own_nil _ _ _ _, HB1.out.trans (HB.out.mono HS1.out)⟩
        · have d1 : ((n : Int) == 4096) = false := beq_eq_false_iff_ne.2 (by omega)
          cases hrd : readL (rowsN 256) x.data.toList with
          | none =>
            rw [hrd] at cr
            have Cr := Lib.hid cr
            have hR := HA2.out
            rw [parseLs_bad (by omega) _ _ hrd] at hR
            have HRv := Lib.hid hR.symm
            clear hR hmany cr hrd
            go_wp2_with fail
            refine Cr.out.mono ?_
            rintro e w3 ⟨rfl, hB3⟩
            have HB3 := Lib.hid ((HB1.out.trans (HB.out.mono HS1.out)).trans (hB3.mono (Nat.le_trans HS1.out HSr.out)))
            clear hB3
            go_wp2_with fail
            go_ret3
            rw [HRv.out]
            exact ⟨_, rfl, own_nil _ _ _ _, HB3.out.alloc HB3.out.size _⟩
          | some i =>
            rw [hrd] at cr
            have Cr := Lib.hid cr
            have hR := HA2.out
            rw [parseLs_good (by omega) _ _ hrd] at hR
            have HRv := Lib.hid hR
            have hn9 : n + 1 ≤ 4096 := by omega
            clear hR hmany cr hrd
            go_wp2_with fail
            refine Cr.out.mono ?_
            rintro e w3 ⟨rfl, hBr⟩
            have hs3 : w1.heap.size ≤ w3.heap.size := Nat.le_trans HSr.out hBr.size
            have HBr := Lib.hid hBr
            have HS3 := Lib.hid hs3
            have HO2 := Lib.hid (show ((w3.alloc (objN i)).alloc (.cells (flatG encN [i]).toArray 25)).ownsRow w1.heap.size 25 4 (.slice A n c) n (flatG encN acc) from own_below HO.out ((hBr.alloc hBr.size _).alloc (by have := hBr.size; simp; omega) _))
            have hx := heap_alloc_new (w3.alloc (objN i)) (.cells (flatG encN [i]).toArray 25)
            have Hx := Lib.hid (rs_news hx)
            clear hBr hs3 hx
            go_wp2_with (at_builtin; refine wpList_append_lies _ rfl _ _ 29 rfl w1.heap.size 25 i0 (.agg #[.int .u16 0, .int .u8 0, .int .u8 0, .int .u32 0]) 4 8 Tryd.underlying29 Hi0.out Hz0.out Hz1.out Hz2.out rfl (by decide) (.slice A n c) n (flatG encN acc) rfl HO2.out ⟨(w3.alloc (objN i)).heap.size, 0, none⟩ 1 1 (flatG encN [i]) (by simp [go_sem]) rfl Hx.out (flatG_one encN_ok _) (by decide) (by simp only [maxLen]; omega) (by omega) (by have := HS3.out; simp; omega) (w3.heap.size + 2) (by simp) ?_; intro g2 cap w5 hown2 hgrow hat hlt)
            have HF := Lib.hid (And.intro hown2 hgrow)
            clear hown2 hgrow hat hlt
            go_wp2_with fail
            go_roundg g
            case measure => omega
            case rel => exact ⟨acc ++ [i], some ⟨g2, 0, none⟩, cap, n + 1, n + 1, by omega, rfl, by go_num, hn9, rfl, by
                show _ = _
                rw [List.length_append, Hal.out]
                rfl, HRv.out, by
                rw [flatG_append]
                exact HF.out.1, ((HB.out.trans (HBr.out.mono HSr.out)).alloc HS3.out _).alloc (by have := HS3.out; simp; omega) _ |>.grown HF.out.2 (by have := HS3.out; simp; omega) (fun b e => (own_lt HO.out e).1)⟩
end Go.Proofs.YtckbcmoanadckaaDoor
