/- Rows of groups: addr.read, the document's groups. -/
import Derived.Test.YtoldhhaplndkcaaDoorGroup
namespace Go.Proofs.YtoldhhaplndkcaaDoor
open Go.RowKit Go.Shelf Go.Deep
set_option linter.unusedVariables false
set_option linter.unusedSimpArgs false

abbrev enc16 (n : Nat) : List Value := [.int .u16 (n : Int)]
theorem enc16_ok : EncOk 1 enc16 := ⟨fun _ => rfl, fun a v hv => by
  simp only [enc16, List.mem_singleton] at hv
  subst hv
  rfl, by decide⟩
theorem info16 : (Tryd.prog.info? 66).map (fun i => (i.zero, i.size, i.bytes)) = some (some (.int .u16 0), 1, 2) := by kernel_rfl
abbrev encIN (n : Nat) : List Value := [.int .i64 (n : Int)]
theorem encIN_ok : EncOk 1 encIN := ⟨fun _ => rfl, fun a v hv => by
  simp only [encIN, List.mem_singleton] at hv
  subst hv
  rfl, by decide⟩
theorem infoIN : (Tryd.prog.info? 3).map (fun i => (i.zero, i.size, i.bytes)) = some (some (.int .i64 0), 1, 8) := by kernel_rfl
/-- The document's: no more than eight. -/
def rgL (l : List UInt8) : Option (List Nat) := if l = [] then some [] else if (splitL 58 l).length ≤ 8 then mapO grpL (splitL 58 l) else none
theorem list_nil {s : ByteArray} (h : s.data.toList = []) : s = ⟨#[]⟩ := (bs_eq_iff [] s).2 h.symm |>.symm
theorem ne_empty {s : ByteArray} (h : ¬ s.data.toList = []) : s.toList.isEmpty = false := by
  rw [ByteArray.toList_eq]
  cases hl : s.data.toList with
  | nil => exact absurd hl h
  | cons a b => rfl
theorem is_empty {s : ByteArray} (h : s.data.toList = []) : s.toList.isEmpty = true := by
  rw [ByteArray.toList_eq, h]
  rfl
/-- How a reading of groups ends. -/
def RdEnd (enc : Nat → List Value) (t : TypeId) (w : World) (o : Option (List Nat)) (e : Ending) (w' : World) : Prop :=
  (match o with
  | none => e = .returned (.tuple #[.slice none 0 0, .bool false])
  | some gs => ∃ v, e = .returned (.tuple #[v, .bool true]) ∧ OwnG 1 enc t w' w.heap.size v gs) ∧ Below w.heap.size w w'
set_option maxRecDepth 100000 in
set_option maxHeartbeats 3200000 in
theorem read_any (s : ByteArray) (m : Int) (w : World) (hs : s.size ≤ 1048576) (hm : w.cell? ⟨3, 0, none⟩ = some (.int .i64 m)) : Calls Tryd.prog 37 #[.string s] w (RdEnd enc16 66 w (readG s.data.toList)) := by
  obtain ⟨R, hR⟩ : ∃ R, readG s.data.toList = R := ⟨_, rfl⟩
  rw [hR]
  obtain ⟨i0, hi0, hz0, hz1, hz2⟩ := info_parts info16
  have Hi0 := Lib.hid hi0
  have Hz0 := Lib.hid hz0
  have Hz1 := Lib.hid hz1
  have Hz2 := Lib.hid hz2
  unfold readG at hR
  clear hi0 hz0 hz1 hz2
  by_cases h0 : s.data.toList = []
  · rw [if_pos h0] at hR
    obtain rfl := list_nil h0
    have HF := Lib.hid hR.symm
    clear hR h0 hm
    go_enter Tryd.func37, Tryd.ntmps37
    go_wp2_with fail
    go_ret2
    rw [HF.out]
    exact ⟨⟨_, rfl, own_nil _ _ _ _⟩, Below.refl _ _⟩
  · have e1 := ne_empty h0
    rw [if_neg h0] at hR
    have HR := Lib.hid hR
    have cs := psplit_any s 58 m w hs hm
    have Cs := Lib.hid cs
    clear hR h0 cs hm
    go_enter Tryd.func37, Tryd.ntmps37
    go_wp2_with fail
    refine Cs.out.mono ?_
    rintro e w1 ⟨v1, rfl, L, hL, hL9, hLs, hown, hB1⟩
    obtain ⟨A1, c1, rfl, hRL⟩ := OwnG.rs encB_ok hown
    have HRL := Lib.hid hRL
    have HB1 := Lib.hid hB1
    have HS1 := Lib.hid hB1.size
    have HLs := Lib.hid hLs
    have n9 : L.length ≤ 1048577 := by omega
    have hM : mapO grpL (ls L) = R := by
      have h := HR.out
      rw [← hL] at h
      exact h
    have HM := Lib.hid hM
    clear hRL hB1 hLs hL9 hown hL hM
    go_wp2_with fail
    go_loopg [4, 6, 7, 8, 14] L.length (fun g s4 s6 s7 s8 s14 wr => ∃ (k n cp : Nat) (A : Option Addr) (us : List Nat), k + g = L.length ∧ n = k ∧ s4 = .slice A n cp ∧ s14 = .int .i64 k ∧ Aside (us.length = n) ∧ Aside ((mapO grpL (ls (L.drop k))).map (us ++ ·) = R) ∧ wr.ownsRow w1.heap.size 66 1 (.slice A n cp) n (flatG enc16 us) ∧ Below w1.heap.size w1 wr)
    case atStart => exact ⟨0, 0, 0, none, [], by omega, rfl, rfl, rfl, by
        show _ = _
        rfl, by
        have h := HM.out
        show _ = _
        rw [List.drop_zero]
        rw [h]; cases R <;> simp
        , own_nil _ _ _ _, Below.refl _ _⟩
    case round =>
      obtain ⟨k, n, cp, A, us, hk, rfl, rfl, rfl, hul, hA, hO, hB⟩ := hrel
      have k0 : (0 : Int) ≤ (n : Int) := by omega
      have HB := Lib.hid hB
      have HS := Lib.hid hB.size
      have HO := Lib.hid hO
      have Hul := Lib.hid hul.out
      have HA := Lib.hid hA.out
      clear hB hO hul hA
      cases gk with
      | zero =>
        have k1 : ¬ (n : Int) < (L.length : Int) := by omega
        have hR := HA.out
        rw [List.drop_of_length_le (by omega)] at hR
        have hR : R = some us := by rw [← hR]; simp [mapO]
        have HF := Lib.hid hR
        clear hR
        go_wp2_with fail
        go_ret2
        rw [HF.out]
        refine ⟨⟨_, rfl, ?_⟩, HB1.out.trans (HB.out.mono HS1.out)⟩
        have := own_mono HO.out HS1.out
        unfold OwnG
        rw [Hul.out]
        exact this
      | succ g =>
        have k1 : (n : Int) < (L.length : Int) := by omega
        have hkl : n < L.length := by omega
        obtain ⟨bb, o, hAe, -⟩ := HRL.out (by omega)
        subst hAe
        obtain ⟨x, hx⟩ : ∃ x, L[n]? = some x := ⟨_, List.getElem?_eq_getElem hkl⟩
        have hcell := (HRL.out.later HB.out).cell encB_ok hx (j := 0) rfl
        simp only [Nat.mul_one, Nat.add_zero] at hcell
        have hdr : L.drop n = x :: L.drop (n + 1) := by
          rw [List.drop_eq_getElem_cons hkl]
          rw [List.getElem?_eq_getElem hkl] at hx
          rw [Option.some.inj hx]
        have hA2 := HA.out
        rw [hdr] at hA2
        have hxz := HLs.out x (List.mem_of_getElem? hx)
        have cg := group_any x wr (by omega)
        cases hd : grpL x.data.toList with
        | none =>
          rw [hd] at cg
          have Cg := Lib.hid cg
          have hR : R = none := by
            rw [← hA2]
            show Option.map _ (mapO grpL (x.data.toList :: ls (L.drop (n + 1)))) = _
            rw [mapO_bad _ hd]; rfl
          have HF := Lib.hid hR
          clear hR hA2 hd cg hdr hx hkl hxz
          go_wp2_with fail
          (with_reducible refine Cg.out.mono ?_)
          rintro e w3 ⟨rfl, hB3⟩
          have HB3 := Lib.hid (HB1.out.trans ((HB.out.trans (hB3.mono HS.out)).mono HS1.out))
          clear hB3
          go_wp2_with fail
          go_ret2
          rw [HF.out]
          exact ⟨rfl, HB3.out⟩
        | some u =>
          rw [hd] at cg
          have Cg := Lib.hid cg
          have hu := grp_lt hd
          have hR : (mapO grpL (ls (L.drop (n + 1)))).map ((us ++ [u]) ++ ·) = R := by
            rw [← hA2]
            exact (mapO_good _ us hd).symm
          have HR2 := Lib.hid hR
          clear hR hA2 hd cg hdr hx hkl hxz
          go_wp2_with fail
          (with_reducible refine Cg.out.mono ?_)
          rintro e w3 ⟨rfl, hB3⟩
          have hBt : Below w1.heap.size w1 w3 := HB.out.trans (hB3.mono HS.out)
          have hx2 : ((w3.alloc (.cells (flatG enc16 [u]).toArray 66)).heap[w3.heap.size]? = some (.cells (flatG enc16 [u]).toArray 66 (0, 0))) := heap_alloc_new w3 _
          have Hx2 := Lib.hid (rs_news hx2)
          have hO2 : w3.ownsRow w1.heap.size 66 1 (.slice A n cp) n (flatG enc16 us) := own_below HO.out hB3
          have HO2 := Lib.hid (show (w3.alloc (.cells (flatG enc16 [u]).toArray 66)).ownsRow w1.heap.size 66 1 (.slice A n cp) n (flatG enc16 us) from own_later hO2 fun b hb => Below.heap_alloc _ _ _ (own_lt hO2 hb).2)
          have HBt := Lib.hid hBt
          have HS2 := Lib.hid hBt.size
          clear hBt hx2 hO2 hB3
          go_wp2_with (at_builtin; refine wpList_append_lies _ rfl _ _ 63 rfl w1.heap.size 66 i0 (.int .u16 0) 1 2 Tryd.underlying63 Hi0.out Hz0.out Hz1.out Hz2.out rfl (by decide) (.slice A n cp) n (flatG enc16 us) rfl HO2.out ⟨w3.heap.size, 0, none⟩ 1 1 (flatG enc16 [u]) (by simp [go_sem]) rfl Hx2.out (flatG_one enc16_ok _) (by decide) (by simp only [maxLen]; omega) (by omega) (by have := HS2.out; simp; omega) (w3.heap.size + 1) (by simp) ?_; intro g2 cap w5 hown2 hgrow hat hlt)
          have HF := Lib.hid (And.intro hown2 hgrow)
          clear hown2 hgrow hat hlt
          go_wp2_with fail
          go_roundg g
          case measure => omega
          case rel => exact ⟨n + 1, n + 1, cap, some ⟨g2, 0, none⟩, us ++ [u], by omega, rfl, rfl, by go_num, by
              show _ = _
              rw [List.length_append, Hul.out]
              rfl, HR2.out, by
              rw [flatG_append]
              exact HF.out.1, (HBt.out.alloc HS2.out _).grown HF.out.2 (by have := HS2.out; simp; omega) (fun b e => (own_lt HO.out e).1)⟩
set_option maxRecDepth 100000 in
set_option maxHeartbeats 3200000 in
theorem rgroups_any (s : ByteArray) (w : World) (hs : s.size ≤ 1048576) : Calls Tryd.prog 39 #[.string s] w (RdEnd encIN 3 w (rgL s.data.toList)) := by
  obtain ⟨R, hR⟩ : ∃ R, rgL s.data.toList = R := ⟨_, rfl⟩
  rw [hR]
  obtain ⟨i0, hi0, hz0, hz1, hz2⟩ := info_parts infoIN
  have Hi0 := Lib.hid hi0
  have Hz0 := Lib.hid hz0
  have Hz1 := Lib.hid hz1
  have Hz2 := Lib.hid hz2
  unfold rgL at hR
  clear hi0 hz0 hz1 hz2
  by_cases h0 : s.data.toList = []
  · rw [if_pos h0] at hR
    obtain rfl := list_nil h0
    have HF := Lib.hid hR.symm
    clear hR h0
    go_enter Tryd.func39, Tryd.ntmps39
    go_wp2_with fail
    go_ret2
    rw [HF.out]
    exact ⟨⟨_, rfl, own_nil _ _ _ _⟩, Below.refl _ _⟩
  · have e1 := ne_empty h0
    rw [if_neg h0] at hR
    have HR := Lib.hid hR
    have cs := rsplit_any s 58 w hs
    have Cs := Lib.hid cs
    clear hR h0 cs
    go_enter Tryd.func39, Tryd.ntmps39
    go_wp2_with fail
    refine Cs.out.mono ?_
    rintro e w1 ⟨v1, rfl, L, hL, hL9, hLs, hown, hB1⟩
    obtain ⟨A1, c1, rfl, hRL⟩ := OwnG.rs encB_ok hown
    have HRL := Lib.hid hRL
    have HB1 := Lib.hid hB1
    have HS1 := Lib.hid hB1.size
    have HLs := Lib.hid hLs
    have n9 : L.length ≤ 1048577 := by omega
    have hM : (if L.length ≤ 8 then mapO grpL (ls L) else none) = R := by
      have h := HR.out
      rw [← hL, ls_length] at h
      exact h
    have HM := Lib.hid hM
    clear hRL hB1 hLs hL9 hown hL hM
    go_wp2_with fail
    go_loopg [5, 6, 7, 8] L.length (fun g s5 s6 s7 s8 wr => ∃ (k n cp : Nat) (A : Option Addr) (us : List Nat), k + g = L.length ∧ n = k ∧ k ≤ 8 ∧ s5 = .slice A n cp ∧ s6 = .int .i64 k ∧ Aside (us.length = n) ∧ Aside ((L.length ≤ 8 → (mapO grpL (ls (L.drop k))).map (us ++ ·) = R) ∧ (8 < L.length → R = none)) ∧ wr.ownsRow w1.heap.size 3 1 (.slice A n cp) n (flatG encIN us) ∧ Below w1.heap.size w1 wr)
    case atStart => exact ⟨0, 0, 0, none, [], by omega, rfl, by omega, rfl, rfl, by
        show _ = _
        rfl, by
        have h := HM.out
        show _ ∧ _
        rw [List.drop_zero]
        refine ⟨fun h8 => ?_, fun h8 => ?_⟩
        · rw [if_pos h8] at h; rw [h]; cases R <;> simp
        · rw [if_neg (by omega)] at h; exact h.symm, own_nil _ _ _ _, Below.refl _ _⟩
    case round =>
      obtain ⟨k, n, cp, A, us, hk, rfl, hk8, rfl, rfl, hul, hA, hO, hB⟩ := hrel
      have k0 : (0 : Int) ≤ (n : Int) := by omega
      have HB := Lib.hid hB
      have HS := Lib.hid hB.size
      have HO := Lib.hid hO
      have Hul := Lib.hid hul.out
      have HA := Lib.hid hA.out
      clear hB hO hul hA
      cases gk with
      | zero =>
        have k1 : ¬ (n : Int) < (L.length : Int) := by omega
        have hR := HA.out.1 (by omega)
        rw [List.drop_of_length_le (by omega)] at hR
        have hR : R = some us := by rw [← hR]; simp [mapO]
        have HF := Lib.hid hR
        clear hR
        go_wp2_with fail
        go_ret2
        rw [HF.out]
        refine ⟨⟨_, rfl, ?_⟩, HB1.out.trans (HB.out.mono HS1.out)⟩
        have := own_mono HO.out HS1.out
        unfold OwnG
        rw [Hul.out]
        exact this
      | succ g =>
        have k1 : (n : Int) < (L.length : Int) := by omega
        have hkl : n < L.length := by omega
        obtain ⟨bb, o, hAe, -⟩ := HRL.out (by omega)
        subst hAe
        obtain ⟨x, hx⟩ : ∃ x, L[n]? = some x := ⟨_, List.getElem?_eq_getElem hkl⟩
        have hcell := (HRL.out.later HB.out).cell encB_ok hx (j := 0) rfl
        simp only [Nat.mul_one, Nat.add_zero] at hcell
        have hdr : L.drop n = x :: L.drop (n + 1) := by
          rw [List.drop_eq_getElem_cons hkl]
          rw [List.getElem?_eq_getElem hkl] at hx
          rw [Option.some.inj hx]
        have hA2 := HA.out
        rw [hdr] at hA2
        have hxz := HLs.out x (List.mem_of_getElem? hx)
        have cg := rgroup_any x wr (by omega)
        cases hd : grpL x.data.toList with
        | none =>
          rw [hd] at cg
          have Cg := Lib.hid cg
          have hR : R = none := by
            by_cases h8 : L.length ≤ 8
            · rw [← hA2.1 h8]; show Option.map _ (mapO grpL (x.data.toList :: ls (L.drop (n + 1)))) = _; rw [mapO_bad _ hd]; rfl
            · exact hA2.2 (by omega)
          have HF := Lib.hid hR
          clear hR hA2 hd cg hdr hx hkl hxz
          go_wp2_with fail
          (with_reducible refine Cg.out.mono ?_)
          rintro e w3 ⟨rfl, rfl⟩
          have HB3 := Lib.hid (HB1.out.trans (HB.out.mono HS1.out))
          go_wp2_with fail
          go_ret2
          rw [HF.out]
          exact ⟨rfl, HB3.out⟩
        | some u =>
          rw [hd] at cg
          have Cg := Lib.hid cg
          have hu := grp_lt hd
          by_cases h8 : 8 ≤ n
          · have hR : R = none := hA2.2 (by omega)
            have HF := Lib.hid hR
            have d8 : (n : Int) ≥ 8 := by omega
            clear hR hA2 hd cg hdr hx hkl hxz h8
            go_wp2_with fail
            (with_reducible refine Cg.out.mono ?_)
            rintro e w3 ⟨rfl, rfl⟩
            go_wp2_with fail
            go_ret2
            rw [HF.out]
            exact ⟨rfl, HB1.out.trans (HB.out.mono HS1.out)⟩
          · have d8 : ¬ (n : Int) ≥ 8 := by omega
            have hR : (L.length ≤ 8 → (mapO grpL (ls (L.drop (n + 1)))).map ((us ++ [u]) ++ ·) = R) ∧ (8 < L.length → R = none) := ⟨fun h => by
              rw [← hA2.1 h]
              exact (mapO_good _ us hd).symm, hA2.2⟩
            have HR2 := Lib.hid hR
            clear hR hA2 hd cg hdr hx hkl hxz
            go_wp2_with fail
            (with_reducible refine Cg.out.mono ?_)
            rintro e w3 ⟨rfl, rfl⟩
            have hBt : Below w1.heap.size w1 wr := HB.out
            have hx2 : ((wr.alloc (.cells (flatG encIN [u]).toArray 3)).heap[wr.heap.size]? = some (.cells (flatG encIN [u]).toArray 3 (0, 0))) := heap_alloc_new wr _
            have Hx2 := Lib.hid (rs_news hx2)
            have hO2 : wr.ownsRow w1.heap.size 3 1 (.slice A n cp) n (flatG encIN us) := HO.out
            have HO2 := Lib.hid (show (wr.alloc (.cells (flatG encIN [u]).toArray 3)).ownsRow w1.heap.size 3 1 (.slice A n cp) n (flatG encIN us) from own_later hO2 fun b hb => Below.heap_alloc _ _ _ (own_lt hO2 hb).2)
            have HBt := Lib.hid hBt
            have HS2 := Lib.hid hBt.size
            clear hBt hx2 hO2
            go_wp2_with (at_builtin; refine wpList_append_lies _ rfl _ _ 68 rfl w1.heap.size 3 i0 (.int .i64 0) 1 8 Tryd.underlying68 Hi0.out Hz0.out Hz1.out Hz2.out rfl (by decide) (.slice A n cp) n (flatG encIN us) rfl HO2.out ⟨wr.heap.size, 0, none⟩ 1 1 (flatG encIN [u]) (by simp [go_sem]) rfl Hx2.out (flatG_one encIN_ok _) (by decide) (by simp only [maxLen]; omega) (by omega) (by have := HS2.out; simp; omega) (wr.heap.size + 1) (by simp) ?_; intro g2 cap w5 hown2 hgrow hat hlt)
            have HF := Lib.hid (And.intro hown2 hgrow)
            clear hown2 hgrow hat hlt
            go_wp2_with fail
            go_roundg g
            case measure => omega
            case rel => exact ⟨n + 1, n + 1, cap, some ⟨g2, 0, none⟩, us ++ [u], by omega, rfl, by omega, rfl, by go_num, by
                show _ = _
                rw [List.length_append, Hul.out]
                rfl, HR2.out, by
                rw [flatG_append]
                exact HF.out.1, (HBt.out.alloc HS2.out _).grown HF.out.2 (by have := HS2.out; simp; omega) (fun b e => (own_lt HO.out e).1)⟩
end Go.Proofs.YtoldhhaplndkcaaDoor
