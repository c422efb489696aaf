/- Lex: the compiler's and the document's. -/
import Derived.Test.YtoknkgeojhekoaaDoorLexL
import Derived.Test.YtoknkgeojhekoaaDoorTokR
import Derived.Deep.LoopGhost
namespace Go.Proofs.YtoknkgeojhekoaaDoor
open Go.RowKit Go.Shelf
set_option linter.unusedVariables false
set_option linter.unusedSimpArgs false

theorem var_kept (w2 : World) {wr w3 : World} {c1 c2 : Array Value} {t : TypeId} {base sz n : Nat} {ty : TypeId} {v : Value} {xs : List Value} (hown : wr.ownsRow base ty sz v n xs) (hs : wr.heap.size ≤ w2.heap.size)
    (hg : ((w2.alloc (.cells c1 t)).alloc (.cells c2 t)).grownBy w3 v.ownBlock) : w3.heap[w2.heap.size]? = some (.cells c1 t (0, 0)) ∧ w2.heap.size < w3.heap.size := by
  have h1 := heap_alloc_new w2 (.cells c1 t)
  have h2 : ((w2.alloc (.cells c1 t)).alloc (.cells c2 t)).heap[w2.heap.size]? = some (.cells c1 t (0, 0)) := (Below.heap_alloc _ _ _ (by simp)).trans h1
  refine ⟨(hg.block _ (by simp; omega) ?_).trans h2, by have := hg.size; simp at this; omega⟩
  intro e
  have := (own_lt hown e.symm).2
  omega
set_option maxRecDepth 100000 in
set_option maxHeartbeats 1600000 in
theorem lex_any (s : ByteArray) (m : Int) (w : World) (hs : s.size ≤ 4611686018427387904) (hm : w.cell? ⟨0, 0, none⟩ = some (.int .i64 m)) :
    Calls Tryd.prog 11 #[.string s] w (LexPost w (lexS s)) := by
  obtain ⟨RES, hRES⟩ : ∃ R, lexS s = R := ⟨_, rfl⟩
  rw [hRES]
  unfold lexS at hRES
  by_cases hlong : 65536 < s.size
  · rw [if_pos hlong] at hRES
    subst hRES
    have i0 : (65536 : Int) < (s.size : Int) := by omega
    clear hlong hm
    go_enter Tryd.func11, Tryd.ntmps11
    go_wp2_with fail
    go_ret3
    exact ⟨Below.refl _ _, rfl⟩
  · rw [if_neg hlong] at hRES
    have i0 : ¬ (65536 : Int) < (s.size : Int) := by omega
    have hb0 : 0 < w.heap.size := World.block_lt_of_cell? w _ hm
    obtain ⟨j0, hi0, hz0, hz1, hz2⟩ := info_parts tkInfos
    have Hz0 := Lib.hid hz0
    have Hz1 := Lib.hid hz1
    have Hz2 := Lib.hid hz2
    have HRES := Lib.hid hRES
    have Hm := Lib.hid hm
    clear hz0 hz1 hz2 hRES hm hlong
    go_enter Tryd.func11, Tryd.ntmps11
    go_wp2_with fail
    go_loopg [5, 6] s.size (fun g s5 s6 wr => ∃ (at0 : Nat) (ts : List Tk), at0 + g = s.size ∧ s6 = .int .i64 at0 ∧ ts.length ≤ at0 ∧ OwnG 4 encT 32 wr w.heap.size s5 ts ∧ Below w.heap.size w wr ∧ Aside (preL ts (lexL (s.data.toList.drop at0) at0) = RES))
    case atStart => exact ⟨0, [], by omega, rfl, Nat.le_refl _, own_nil _ _ _ _, Below.refl _ _, by rw [preL_nil]; exact HRES.out⟩
    case round =>
      obtain ⟨at0, ts, hg, rfl, hlen, hown, hB, hA⟩ := hrel
      have HO := Lib.hid hown
      have HB := Lib.hid hB
      have HS := Lib.hid hB.size
      obtain ⟨A5, c5, e5, -⟩ := hown.rs encT_ok
      subst e5
      have hs5 : s.size ≤ 65536 := by omega
      have a0 : (0 : Int) ≤ (at0 : Int) := by omega
      clear hown hB
      cases gk with
      | zero =>
        have hat : at0 = s.size := by omega
        have a1 : ¬ (at0 : Int) < (s.size : Int) := by omega
        have hR : RES = .ok (ts ++ [⟨0, (s.size : Int), ⟨#[]⟩, 0⟩]) := by
          rw [← hA.out, hat, List.drop_of_length_le (by rw [size_list]; omega), lexL_nil]
          rfl
        have HR := Lib.hid hR
        have Hat := Lib.hid hat
        have HO2 := Lib.hid (show (wr.alloc (.cells (flatG encT [⟨0, (s.size : Int), ⟨#[]⟩, 0⟩]).toArray 32)).ownsRow w.heap.size 32 4 (.slice A5 ts.length c5) ts.length (flatG encT ts) from own_below HO.out ((Below.refl _ wr).alloc (Nat.le_refl _) _))
        have hx := heap_alloc_new wr (.cells (flatG encT [(⟨0, (s.size : Int), ⟨#[]⟩, 0⟩ : Tk)]).toArray 32)
        have Hx := Lib.hid (rs_news hx)
        clear hat hR hx
        go_wp2_with (at_builtin; refine wpList_append_lies _ rfl _ _ 22 rfl w.heap.size 32 j0 (.agg #[.int .i64 0, .int .i64 0, .string ⟨#[]⟩, .int .u32 0]) 4 40 Tryd.underlying22 hi0 Hz0.out Hz1.out Hz2.out rfl (by decide) (.slice A5 ts.length c5) ts.length (flatG encT ts) rfl HO2.out ⟨wr.heap.size, 0, none⟩ 1 1 (flatG encT [⟨0, (s.size : Int), ⟨#[]⟩, 0⟩]) rfl rfl Hx.out (flatG_one encT_ok _) (by decide) (by simp only [maxLen]; omega) (by omega) (by have := HS.out; simp; omega) (wr.heap.size + 1) (by simp) ?_; intro g2 cap w2 hown2 hgrow hat hlt)
        go_ret3
        rw [HR.out]
        refine ⟨(HB.out.alloc HS.out _).grown hgrow (by have := HS.out; simp; omega) (fun k e => (own_lt HO.out e).1), g2, cap, by rw [List.length_append]; rfl, ?_⟩
        unfold OwnG
        rw [List.length_append, flatG_append]
        exact hown2
      | succ g =>
        have hlt : at0 < s.size := by omega
        have a1 : (at0 : Int) < (s.size : Int) := by omega
        have a2 : (at0 : Int) ≤ (s.size : Int) := by omega
        have hA2 := hA.out
        rw [drop_byte hlt] at hA2
        have HA := Lib.hid hA2
        clear hA2 hA
        obtain ⟨b, hb⟩ : ∃ b, blankB (s[at0].toNat : Int) = b := ⟨_, rfl⟩
        have cb := blank_any (s[at0].toNat : Int) wr
        rw [hb] at cb
        have Cb := Lib.hid cb
        have Hb := Lib.hid hb
        clear cb hb
        cases b with
        | true =>
          go_wp2_with fail
          refine Cb.out.mono ?_
          rintro e w2 ⟨rfl, rfl⟩
          go_wp2_with fail
          go_roundg g
          case measure => omega
          case rel => exact ⟨at0 + 1, ts, by omega, by go_num, by omega, HO.out, HB.out, by
              show _ = _
              rw [← HA.out, lexL_blank Hb.out]⟩
        | false =>
          have hmr : wr.cell? ⟨0, 0, none⟩ = some (.int .i64 m) := (HB.out.cell (p := ⟨0, 0, none⟩) hb0).trans Hm.out
          have hlen3 : (tokR (s[at0] :: s.data.toList.drop (at0 + 1))).err = 0 → 1 ≤ (tokR (s[at0] :: s.data.toList.drop (at0 + 1))).len ∧ (tokR (s[at0] :: s.data.toList.drop (at0 + 1))).len ≤ s.size - at0 := fun h => by
            have h1 := tokR_len h
            rw [List.length_drop, size_list] at h1
            omega
          have htl : (s.extract at0 s.size).data.toList = s.data.toList.drop at0 := by
            rw [extract_list, List.take_of_length_le (by rw [List.length_drop, size_list]; omega)]
          have hte : (s.extract at0 s.size).extract 0 (tokR (s.data.toList.drop at0)).len = s.extract at0 (at0 + (tokR (s.data.toList.drop at0)).len) := by
            apply ByteArray.ext
            apply Array.toList_inj.1
            rw [take_extract, htl, extract_list]
            congr 1
            omega
          have ct := token_any (s.extract at0 s.size) m wr (by rw [ByteArray.size_extract]; omega) (by rw [ByteArray.size_extract]; omega) hmr
          rw [htl, hte] at ct
          clear htl hte
          obtain ⟨l, hl⟩ : ∃ l, s.data.toList.drop (at0 + 1) = l := ⟨_, rfl⟩
          rw [← drop_byte hlt] at hlen3
          obtain ⟨R, hR⟩ : ∃ R, tokR (s.data.toList.drop at0) = R := ⟨_, rfl⟩
          rw [hR] at ct hlen3
          have hRt := extract_take s at0 R.len
          obtain ⟨t, ht⟩ : ∃ t, s.extract at0 (at0 + R.len) = t := ⟨_, rfl⟩
          rw [ht] at ct hRt
          have hts : R.len ≤ s.size - at0 → t.size = R.len := fun h => by
            rw [← ht, ByteArray.size_extract]
            omega
          have Ct := Lib.hid ct
          have HRt := Lib.hid hRt
          have Hts := Lib.hid hts
          have HR := Lib.hid hR
          have HL3 := Lib.hid hlen3
          clear ct hmr hRt hts hR ht hl hlen3
          obtain ⟨e1, k1, n1, v1⟩ := R
          by_cases he : e1 = 0
          · subst he
            have hl3 := HL3.out rfl
            obtain ⟨l1, l2⟩ := hl3
            have hts := Hts.out l2
            have l3 : (t.size : Int) = (n1 : Int) := by show (t.size : Int) = (n1 : Int); rw [hts]
            have l4 : 1 ≤ t.size ∧ at0 + t.size ≤ s.size := by
              have : t.size = n1 := hts
              have l2 : n1 ≤ s.size - at0 := l2
              have l1 : 1 ≤ n1 := l1
              omega
            obtain ⟨l5, l6⟩ := l4
            have Hl3 := Lib.hid l3
            clear l3 hts l1 l2
            have hnext : preL (ts ++ [⟨k1, (at0 : Int), t, v1⟩]) (lexL (s.data.toList.drop (at0 + t.size)) (at0 + t.size)) = RES := by
              rw [← HA.out, preL_append, ← drop_byte hlt]
              have hd := drop_byte hlt
              have hR := HR.out
              rw [hd] at hR ⊢
              rw [lexL_tok Hb.out (by rw [hR])]
              have e2 : tkAt (s[at0] :: s.data.toList.drop (at0 + 1)) at0 = ⟨k1, (at0 : Int), t, v1⟩ := by
                unfold tkAt
                rw [hR]
                have h1 := HRt.out
                rw [hd] at h1
                rw [h1]
              have e3 : t.size = n1 := by have := Hl3.out; omega
              rw [e2, hR, e3]
              show preL ts (preL _ (lexL (s.data.toList.drop (at0 + n1)) (at0 + n1))) = preL ts (preL _ (lexL ((s[at0] :: s.data.toList.drop (at0 + 1)).drop n1) (at0 + n1)))
              rw [← hd, List.drop_drop]
            have HN := Lib.hid hnext
            clear hnext
            unfold tokV at Ct
            go_wp2_with fail
            refine Cb.out.mono ?_
            rintro e w2 ⟨rfl, rfl⟩
            go_wp2_with fail
            refine Ct.out.mono ?_
            rintro e w2 ⟨rfl, hB2⟩
            have hS2 := hB2.size
            have HB2 := Lib.hid hB2
            have HS2 := Lib.hid hS2
            clear hB2 hS2
            obtain ⟨W, hW⟩ : ∃ W, w2.alloc (.cells #[.int .i64 k1, .int .i64 at0, .string t, .int .u32 v1] 32) = W := ⟨_, rfl⟩
            have HW := Lib.hid hW
            have HBW : Hid (Below wr.heap.size wr W) := Lib.hid (by rw [← hW]; exact HB2.out.alloc HS2.out _)
            have HO2 := Lib.hid (show ((w2.alloc (.cells #[.int .i64 k1, .int .i64 at0, .string t, .int .u32 v1] 32)).alloc (.cells (flatG encT [⟨k1, (at0 : Int), t, v1⟩]).toArray 32)).ownsRow w.heap.size 32 4 (.slice A5 ts.length c5) ts.length (flatG encT ts) from own_below HO.out ((HB2.out.alloc HS2.out _).alloc (by have := HS2.out; simp; omega) _))
            have hx := heap_alloc_new (w2.alloc (.cells #[.int .i64 k1, .int .i64 at0, .string t, .int .u32 v1] 32)) (.cells (flatG encT [(⟨k1, (at0 : Int), t, v1⟩ : Tk)]).toArray 32)
            have hx2 := rs_news hx
            rw [show (w2.alloc (.cells #[.int .i64 k1, .int .i64 at0, .string t, .int .u32 v1] 32)).heap.size = w2.heap.size + 1 from by simp] at hx2
            have Hx := Lib.hid hx2
            clear hx hx2 hW HBW HW
            go_wp2_with (at_builtin; refine wpList_append_lies _ rfl _ _ 22 rfl w.heap.size 32 j0 (.agg #[.int .i64 0, .int .i64 0, .string ⟨#[]⟩, .int .u32 0]) 4 40 Tryd.underlying22 hi0 Hz0.out Hz1.out Hz2.out rfl (by decide) (.slice A5 ts.length c5) ts.length (flatG encT ts) rfl HO2.out ⟨w2.heap.size + 1, 0, none⟩ 1 1 (flatG encT [⟨k1, (at0 : Int), t, v1⟩]) rfl rfl Hx.out (flatG_one encT_ok _) (by decide) (by simp only [maxLen]; omega) (by omega) (by have := HS.out; have := HS2.out; simp; omega) (w2.heap.size + 2) (by simp) ?_; intro g2 cap w3 hown2 hgrow hat hlt)
            go_roundg (g + 1 - t.size)
            case measure => omega
            case rel => exact ⟨at0 + t.size, ts ++ [(⟨k1, (at0 : Int), t, v1⟩ : Tk)], by omega, by go_num, by rw [List.length_append]; show ts.length + 1 ≤ _; omega, by
                unfold OwnG
                rw [List.length_append, flatG_append]
                exact hown2, (HB.out.trans ((HB2.out.alloc HS2.out _).mono HS.out)).trans (((Below.refl _ _).alloc (by have := HS.out; have := HS2.out; simp; omega) _).grown hgrow (by have := HS.out; have := HS2.out; simp; omega) (fun k e => (own_lt HO.out e).1)), by show _ = _; exact HN.out⟩
          · have hR : RES = .error (at0, e1) := by
              rw [← HA.out]
              have hd := drop_byte hlt
              have hR := HR.out
              rw [hd] at hR
              rw [lexL_bad Hb.out (by rw [hR]; exact he), hR]
              rfl
            have HRe := Lib.hid hR
            have he2 : (e1 == 0) = false := by simpa using he
            clear hR he
            unfold tokV at Ct
            go_wp2_with fail
            refine Cb.out.mono ?_
            rintro e w2 ⟨rfl, rfl⟩
            go_wp2_with fail
            refine Ct.out.mono ?_
            rintro e w2 ⟨rfl, hB2⟩
            have hS2 := hB2.size
            have HB2 := Lib.hid hB2
            have HS2 := Lib.hid hS2
            clear hB2 hS2
            go_wp2_with fail
            go_ret3
            rw [HRe.out]
            exact ⟨(HB.out.trans (HB2.out.mono HS.out)).alloc (by have := HS.out; have := HS2.out; omega) _, rfl⟩
set_option maxRecDepth 100000 in
set_option maxHeartbeats 1600000 in
theorem rlex_any (s : ByteArray) (m : Int) (w : World) (hs : s.size ≤ 4611686018427387904) (hm : w.cell? ⟨0, 0, none⟩ = some (.int .i64 m)) :
    Calls Tryd.prog 10 #[.string s] w (LexPost w (lexS s)) := by
  obtain ⟨RES, hRES⟩ : ∃ R, lexS s = R := ⟨_, rfl⟩
  rw [hRES]
  unfold lexS at hRES
  by_cases hlong : 65536 < s.size
  · rw [if_pos hlong] at hRES
    subst hRES
    have i0 : (65536 : Int) < (s.size : Int) := by omega
    clear hlong hm
    go_enter Tryd.func10, Tryd.ntmps10
    go_wp2_with fail
    go_ret3
    exact ⟨Below.refl _ _, rfl⟩
  · rw [if_neg hlong] at hRES
    have i0 : ¬ (65536 : Int) < (s.size : Int) := by omega
    have hb0 : 0 < w.heap.size := World.block_lt_of_cell? w _ hm
    obtain ⟨j0, hi0, hz0, hz1, hz2⟩ := info_parts tkInfos
    have Hz0 := Lib.hid hz0
    have Hz1 := Lib.hid hz1
    have Hz2 := Lib.hid hz2
    have HRES := Lib.hid hRES
    have Hm := Lib.hid hm
    clear hz0 hz1 hz2 hRES hm hlong
    go_enter Tryd.func10, Tryd.ntmps10
    go_wp2_with fail
    go_loopg [5, 6] s.size (fun g s5 s6 wr => ∃ (at0 : Nat) (ts : List Tk), at0 + g = s.size ∧ s6 = .int .i64 at0 ∧ ts.length ≤ at0 ∧ OwnG 4 encT 32 wr w.heap.size s5 ts ∧ Below w.heap.size w wr ∧ Aside (preL ts (lexL (s.data.toList.drop at0) at0) = RES))
    case atStart => exact ⟨0, [], by omega, rfl, Nat.le_refl _, own_nil _ _ _ _, Below.refl _ _, by rw [preL_nil]; exact HRES.out⟩
    case round =>
      obtain ⟨at0, ts, hg, rfl, hlen, hown, hB, hA⟩ := hrel
      have HO := Lib.hid hown
      have HB := Lib.hid hB
      have HS := Lib.hid hB.size
      obtain ⟨A5, c5, e5, -⟩ := hown.rs encT_ok
      subst e5
      have hs5 : s.size ≤ 65536 := by omega
      have a0 : (0 : Int) ≤ (at0 : Int) := by omega
      clear hown hB
      cases gk with
      | zero =>
        have hat : at0 = s.size := by omega
        have a1 : ¬ (at0 : Int) < (s.size : Int) := by omega
        have hR : RES = .ok (ts ++ [⟨0, (s.size : Int), ⟨#[]⟩, 0⟩]) := by
          rw [← hA.out, hat, List.drop_of_length_le (by rw [size_list]; omega), lexL_nil]
          rfl
        have HR := Lib.hid hR
        have Hat := Lib.hid hat
        have HO2 := Lib.hid (show (wr.alloc (.cells (flatG encT [⟨0, (s.size : Int), ⟨#[]⟩, 0⟩]).toArray 32)).ownsRow w.heap.size 32 4 (.slice A5 ts.length c5) ts.length (flatG encT ts) from own_below HO.out ((Below.refl _ wr).alloc (Nat.le_refl _) _))
        have hx := heap_alloc_new wr (.cells (flatG encT [(⟨0, (s.size : Int), ⟨#[]⟩, 0⟩ : Tk)]).toArray 32)
        have Hx := Lib.hid (rs_news hx)
        clear hat hR hx
        go_wp2_with (at_builtin; refine wpList_append_lies _ rfl _ _ 22 rfl w.heap.size 32 j0 (.agg #[.int .i64 0, .int .i64 0, .string ⟨#[]⟩, .int .u32 0]) 4 40 Tryd.underlying22 hi0 Hz0.out Hz1.out Hz2.out rfl (by decide) (.slice A5 ts.length c5) ts.length (flatG encT ts) rfl HO2.out ⟨wr.heap.size, 0, none⟩ 1 1 (flatG encT [⟨0, (s.size : Int), ⟨#[]⟩, 0⟩]) rfl rfl Hx.out (flatG_one encT_ok _) (by decide) (by simp only [maxLen]; omega) (by omega) (by have := HS.out; simp; omega) (wr.heap.size + 1) (by simp) ?_; intro g2 cap w2 hown2 hgrow hat hlt)
        go_ret3
        rw [HR.out]
        refine ⟨(HB.out.alloc HS.out _).grown hgrow (by have := HS.out; simp; omega) (fun k e => (own_lt HO.out e).1), g2, cap, by rw [List.length_append]; rfl, ?_⟩
        unfold OwnG
        rw [List.length_append, flatG_append]
        exact hown2
      | succ g =>
        have hlt : at0 < s.size := by omega
        have a1 : (at0 : Int) < (s.size : Int) := by omega
        have a2 : (at0 : Int) ≤ (s.size : Int) := by omega
        have hA2 := hA.out
        rw [drop_byte hlt] at hA2
        have HA := Lib.hid hA2
        clear hA2 hA
        obtain ⟨b, hb⟩ : ∃ b, blankB (s[at0].toNat : Int) = b := ⟨_, rfl⟩
        have cb := rblank_any (s[at0].toNat : Int) wr
        rw [hb] at cb
        have Cb := Lib.hid cb
        have Hb := Lib.hid hb
        clear cb hb
        cases b with
        | true =>
          go_wp2_with fail
          refine Cb.out.mono ?_
          rintro e w2 ⟨rfl, rfl⟩
          go_wp2_with fail
          go_roundg g
          case measure => omega
          case rel => exact ⟨at0 + 1, ts, by omega, by go_num, by omega, HO.out, HB.out, by
              show _ = _
              rw [← HA.out, lexL_blank Hb.out]⟩
        | false =>
          have hmr : wr.cell? ⟨0, 0, none⟩ = some (.int .i64 m) := (HB.out.cell (p := ⟨0, 0, none⟩) hb0).trans Hm.out
          have hlen3 : (tokR (s[at0] :: s.data.toList.drop (at0 + 1))).err = 0 → 1 ≤ (tokR (s[at0] :: s.data.toList.drop (at0 + 1))).len ∧ (tokR (s[at0] :: s.data.toList.drop (at0 + 1))).len ≤ s.size - at0 := fun h => by
            have h1 := tokR_len h
            rw [List.length_drop, size_list] at h1
            omega
          have ct := rtoken_any s at0 wr hs hlt
          obtain ⟨l, hl⟩ : ∃ l, s.data.toList.drop (at0 + 1) = l := ⟨_, rfl⟩
          rw [← drop_byte hlt] at hlen3
          obtain ⟨R, hR⟩ : ∃ R, tokR (s.data.toList.drop at0) = R := ⟨_, rfl⟩
          rw [hR] at ct hlen3
          have hRt := extract_take s at0 R.len
          obtain ⟨t, ht⟩ : ∃ t, s.extract at0 (at0 + R.len) = t := ⟨_, rfl⟩
          rw [ht] at ct hRt
          have hts : R.len ≤ s.size - at0 → t.size = R.len := fun h => by
            rw [← ht, ByteArray.size_extract]
            omega
          have Ct := Lib.hid ct
          have HRt := Lib.hid hRt
          have Hts := Lib.hid hts
          have HR := Lib.hid hR
          have HL3 := Lib.hid hlen3
          clear ct hmr hRt hts hR ht hl hlen3
          obtain ⟨e1, k1, n1, v1⟩ := R
          by_cases he : e1 = 0
          · subst he
            have hl3 := HL3.out rfl
            obtain ⟨l1, l2⟩ := hl3
            have hts := Hts.out l2
            have l3 : (t.size : Int) = (n1 : Int) := by show (t.size : Int) = (n1 : Int); rw [hts]
            have l4 : 1 ≤ t.size ∧ at0 + t.size ≤ s.size := by
              have : t.size = n1 := hts
              have l2 : n1 ≤ s.size - at0 := l2
              have l1 : 1 ≤ n1 := l1
              omega
            obtain ⟨l5, l6⟩ := l4
            have Hl3 := Lib.hid l3
            clear l3 hts l1 l2
            have hnext : preL (ts ++ [⟨k1, (at0 : Int), t, v1⟩]) (lexL (s.data.toList.drop (at0 + t.size)) (at0 + t.size)) = RES := by
              rw [← HA.out, preL_append, ← drop_byte hlt]
              have hd := drop_byte hlt
              have hR := HR.out
              rw [hd] at hR ⊢
              rw [lexL_tok Hb.out (by rw [hR])]
              have e2 : tkAt (s[at0] :: s.data.toList.drop (at0 + 1)) at0 = ⟨k1, (at0 : Int), t, v1⟩ := by
                unfold tkAt
                rw [hR]
                have h1 := HRt.out
                rw [hd] at h1
                rw [h1]
              have e3 : t.size = n1 := by have := Hl3.out; omega
              rw [e2, hR, e3]
              show preL ts (preL _ (lexL (s.data.toList.drop (at0 + n1)) (at0 + n1))) = preL ts (preL _ (lexL ((s[at0] :: s.data.toList.drop (at0 + 1)).drop n1) (at0 + n1)))
              rw [← hd, List.drop_drop]
            have HN := Lib.hid hnext
            clear hnext
            unfold tokV at Ct
            go_wp2_with fail
            refine Cb.out.mono ?_
            rintro e w2 ⟨rfl, rfl⟩
            go_wp2_with fail
            refine Ct.out.mono ?_
            rintro e w2 ⟨rfl, hB2⟩
            have hS2 := hB2.size
            have HB2 := Lib.hid hB2
            have HS2 := Lib.hid hS2
            clear hB2 hS2
            obtain ⟨W, hW⟩ : ∃ W, w2.alloc (.cells #[.int .i64 k1, .int .i64 at0, .string t, .int .u32 v1] 32) = W := ⟨_, rfl⟩
            have HW := Lib.hid hW
            have HBW : Hid (Below wr.heap.size wr W) := Lib.hid (by rw [← hW]; exact HB2.out.alloc HS2.out _)
            have HO2 := Lib.hid (show ((w2.alloc (.cells #[.int .i64 k1, .int .i64 at0, .string t, .int .u32 v1] 32)).alloc (.cells (flatG encT [⟨k1, (at0 : Int), t, v1⟩]).toArray 32)).ownsRow w.heap.size 32 4 (.slice A5 ts.length c5) ts.length (flatG encT ts) from own_below HO.out ((HB2.out.alloc HS2.out _).alloc (by have := HS2.out; simp; omega) _))
            have hx := heap_alloc_new (w2.alloc (.cells #[.int .i64 k1, .int .i64 at0, .string t, .int .u32 v1] 32)) (.cells (flatG encT [(⟨k1, (at0 : Int), t, v1⟩ : Tk)]).toArray 32)
            have hx2 := rs_news hx
            rw [show (w2.alloc (.cells #[.int .i64 k1, .int .i64 at0, .string t, .int .u32 v1] 32)).heap.size = w2.heap.size + 1 from by simp] at hx2
            have Hx := Lib.hid hx2
            clear hx hx2 hW HBW HW
            go_wp2_with (at_builtin; refine wpList_append_lies _ rfl _ _ 22 rfl w.heap.size 32 j0 (.agg #[.int .i64 0, .int .i64 0, .string ⟨#[]⟩, .int .u32 0]) 4 40 Tryd.underlying22 hi0 Hz0.out Hz1.out Hz2.out rfl (by decide) (.slice A5 ts.length c5) ts.length (flatG encT ts) rfl HO2.out ⟨w2.heap.size + 1, 0, none⟩ 1 1 (flatG encT [⟨k1, (at0 : Int), t, v1⟩]) rfl rfl Hx.out (flatG_one encT_ok _) (by decide) (by simp only [maxLen]; omega) (by omega) (by have := HS.out; have := HS2.out; simp; omega) (w2.heap.size + 2) (by simp) ?_; intro g2 cap w3 hown2 hgrow hat hlt; have Hown2 := Lib.hid hown2; have Hgrow := Lib.hid hgrow; have Hlt := Lib.hid hlt; obtain ⟨hq0, hq1⟩ := var_kept w2 HO.out HS2.out hgrow; have hq2 := cell_of_row w3 _ 2 _ _ _ hq0; clear hq0; clear hown2 hgrow hat hlt)
            go_roundg (g + 1 - t.size)
            case measure => omega
            case rel => exact ⟨at0 + t.size, ts ++ [(⟨k1, (at0 : Int), t, v1⟩ : Tk)], by omega, by go_num, by rw [List.length_append]; show ts.length + 1 ≤ _; omega, by
                unfold OwnG
                rw [List.length_append, flatG_append]
                exact Hown2.out, (HB.out.trans ((HB2.out.alloc HS2.out _).mono HS.out)).trans (((Below.refl _ _).alloc (by have := HS.out; have := HS2.out; simp; omega) _).grown Hgrow.out (by have := HS.out; have := HS2.out; simp; omega) (fun k e => (own_lt HO.out e).1)), by show _ = _; exact HN.out⟩
          · have hR : RES = .error (at0, e1) := by
              rw [← HA.out]
              have hd := drop_byte hlt
              have hR := HR.out
              rw [hd] at hR
              rw [lexL_bad Hb.out (by rw [hR]; exact he), hR]
              rfl
            have HRe := Lib.hid hR
            have he2 : (e1 == 0) = false := by simpa using he
            have ct := Ct.out
            rw [if_neg (show ¬ (⟨e1, k1, n1, v1⟩ : TR).err = 0 from he)] at ct
            clear Ct
            have Ct := Lib.hid ct
            clear ct
            clear hR he
            unfold tokV at Ct
            go_wp2_with fail
            refine Cb.out.mono ?_
            rintro e w2 ⟨rfl, rfl⟩
            go_wp2_with fail
            refine Ct.out.mono ?_
            rintro e w2 ⟨rfl, hB2⟩
            have hS2 := hB2.size
            have HB2 := Lib.hid hB2
            have HS2 := Lib.hid hS2
            clear hB2 hS2
            go_wp2_with fail
            go_ret3
            rw [HRe.out]
            exact ⟨(HB.out.trans (HB2.out.mono HS.out)).alloc (by have := HS.out; have := HS2.out; omega) _, rfl⟩
end Go.Proofs.YtoknkgeojhekoaaDoor
