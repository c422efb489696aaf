/- The document's short text, row of noughts. -/
import Derived.Test.YtoldhhaplndkcaaDoorHex2
namespace Go.Proofs.YtoldhhaplndkcaaDoor
open Go.RowKit Go.Shelf Go.Deep
set_option linter.unusedVariables false
set_option linter.unusedSimpArgs false

theorem bytesG_get : ∀ (gs : List Nat) (k g : Nat), gs[k]? = some g → (bytesG gs)[2 * k]? = some (g / 256) ∧ (bytesG gs)[2 * k + 1]? = some (g % 256)
  | [], k, g, h => by cases h
  | a :: gs, 0, g, h => by cases h; exact ⟨rfl, rfl⟩
  | a :: gs, k + 1, g, h => by
    have ih := bytesG_get gs k g h
    show (a / 256 :: a % 256 :: bytesG gs)[2 * (k + 1)]? = _ ∧ (a / 256 :: a % 256 :: bytesG gs)[2 * (k + 1) + 1]? = _
    rw [show 2 * (k + 1) = 2 * k + 1 + 1 from by omega]
    exact ih
theorem bytes_lt {gs : List Nat} (h : ∀ g ∈ gs, g < 65536) : ∀ x ∈ bytesG gs, x < 256 := by
  intro x hx
  unfold bytesG at hx
  obtain ⟨g, hg, hx⟩ := List.mem_flatMap.1 hx
  have := h g hg
  rcases List.mem_cons.1 hx with rfl | hx
  · omega
  · rw [List.mem_singleton.1 hx]; omega
set_option maxRecDepth 100000 in
set_option maxHeartbeats 3200000 in
theorem rshort_any (x y : Nat) (w : World) (hx : x < 256) (hy : y < 256) : Calls Tryd.prog 46 #[.int .u8 x, .int .u8 y] w fun e w' => e = .returned (.string (bs (stripL (hexs [x, y])))) ∧ Below w.heap.size w w' := by
  have ch := rhex_any w.heap.size 2 [x, y] (w.alloc (.cells #[.int .u8 (x : Int), .int .u8 (y : Int)] 5)) (by intro z hz; simp at hz; omega) (by show 2 ≤ 1000; decide) (by
    intro k z hz
    have h := heap_alloc_new w (.cells #[.int .u8 (x : Int), .int .u8 (y : Int)] 5)
    rw [cell_of_row _ _ _ _ _ _ h]
    match k, hz with
    | 0, hz => cases hz; rfl
    | 1, hz => cases hz; rfl
    | k + 2, hz => cases hz)
  obtain ⟨S0, hS0⟩ : ∃ S, bs (hexs [x, y]) = S := ⟨_, rfl⟩
  have hl0 : S0.data.toList = hexs [x, y] := by rw [← hS0, bs_list]
  have hz0 : S0.size = 4 := by rw [← size_list, hl0]; rfl
  rw [hS0] at ch
  have Ch := Lib.hid ch
  have HL0 := Lib.hid hl0
  have HZ0 := Lib.hid hz0
  clear ch hS0 hl0 hz0
  obtain ⟨R, hR⟩ : ∃ R, stripL (hexs [x, y]) = R := ⟨_, rfl⟩
  rw [hR]
  have HR := Lib.hid hR
  clear hR
  go_enter Tryd.func46, Tryd.ntmps46
  go_wp2_with fail
  refine Ch.out.mono ?_
  rintro e w1 ⟨rfl, hB⟩
  have HB := Lib.hid (((Below.refl _ w).alloc (Nat.le_refl _) (.cells #[.int .u8 (x : Int), .int .u8 (y : Int)] 5)).trans (hB.mono (by simp)))
  clear hB
  go_wp2_with fail
  go_loopg [5] 5 (fun g s5 wr => ∃ S : ByteArray, s5 = .string S ∧ S.size < g ∧ S.size ≤ 4 ∧ Aside (stripL S.data.toList = R) ∧ w1 = wr)
  case atStart => exact ⟨S0, rfl, by have := HZ0.out; omega, by have := HZ0.out; omega, by
      show _ = _
      rw [HL0.out]
      exact HR.out, rfl⟩
  case round =>
    obtain ⟨S, rfl, hg, h4, hA, rfl⟩ := hrel
    have HA := Lib.hid hA.out
    have s4 : (S.size : Int) ≤ 4 := by omega
    clear hA
    by_cases h1 : 1 < S.size
    · have d1 : (S.size : Int) > 1 := by omega
      have s0 : (0 : Int) < (S.size : Int) := by omega
      have hp : 0 < S.size := by omega
      obtain ⟨b, hb⟩ : ∃ b, S[0] = b := ⟨_, rfl⟩
      have hd := drop_byte (s := S) (i := 0) (by omega)
      have hd1 := drop_byte (s := S) (i := 1) (by omega)
      rw [List.drop_zero, hb, hd1] at hd
      have hA2 := HA.out
      rw [hd] at hA2
      by_cases h48 : b = 48
      · have d2 : ((b.toNat : Int) == 48) = true := by rw [h48]; rfl
        subst h48
        rw [strip_drop, ← hd1] at hA2
        have hx : (S.extract 1 S.size).data.toList = S.data.toList.drop 1 := by
          rw [extract_list, List.take_of_length_le (by rw [List.length_drop, size_list]; omega)]
        have HX := Lib.hid (show stripL (S.extract 1 S.size).data.toList = R by rw [hx]; exact hA2)
        have s1 : (1 : Int) ≤ (S.size : Int) := by omega
        obtain ⟨g, rfl⟩ : ∃ g', gk = g' + 1 := ⟨gk - 1, by omega⟩
        clear hA2 hd hd1 hx
        go_wp2_with fail
        go_roundg g
        case measure => omega
        case rel => exact ⟨_, rfl, by rw [ByteArray.size_extract]; omega, by rw [ByteArray.size_extract]; omega, HX.out, rfl⟩
      · have d2 : ((b.toNat : Int) == 48) = false := by
          rw [beq_eq_false_iff_ne]
          intro h
          exact h48 (UInt8.toNat_inj.1 (by show b.toNat = 48; omega))
        rw [strip_keep _ h48, ← hd] at hA2
        have HF := Lib.hid (show S = bs R from ((bs_eq_iff R S).2 hA2.symm).symm)
        clear hA2 hd hd1 h48
        go_wp2_with fail
        go_ret
        rw [← HF.out]; exact ⟨rfl, HB.out⟩
    · have d1 : ¬ (S.size : Int) > 1 := by omega
      have hA2 : S.data.toList = R := by
        have h := HA.out
        have hl := size_list S
        match hd : S.data.toList with
        | [] => rw [hd] at h; exact h
        | [b] => rw [hd] at h; exact h
        | b :: c :: r => rw [hd] at hl; simp at hl; omega
      have HF := Lib.hid (show S = bs R from ((bs_eq_iff R S).2 hA2.symm).symm)
      clear hA2
      go_wp2_with fail
      go_ret
      rw [← HF.out]; exact ⟨rfl, HB.out⟩
theorem rowZ_step (zs : List Bool) (k : Nat) : rowZ zs k = match zs[k]? with
    | some true => rowZ zs (k + 1) + 1
    | _ => 0 := by
  unfold rowZ
  cases h : zs[k]? with
  | none =>
    have : zs.length ≤ k := List.getElem?_eq_none_iff.1 h
    rw [List.drop_of_length_le this]
    rfl
  | some b =>
    have hlt : k < zs.length := (List.getElem?_eq_some_iff.1 h).1
    rw [List.drop_eq_getElem_cons hlt]
    have hb : zs[k] = b := (List.getElem?_eq_some_iff.1 h).2
    rw [hb]
    cases b with
    | true => simp
    | false => simp
theorem rowZ_le (zs : List Bool) (k : Nat) : rowZ zs k ≤ zs.length - k := by
  unfold rowZ
  have h1 := (List.takeWhile_sublist (p := id) (l := zs.drop k)).length_le
  rw [List.length_drop] at h1
  exact h1
theorem flags_get {gs : List Nat} {k g : Nat} (h : gs[k]? = some g) : (flags gs)[k]? = some (g == 0) := by
  unfold flags
  rw [List.getElem?_map, h]
  rfl
set_option maxRecDepth 100000 in
set_option maxHeartbeats 3200000 in
theorem rrow_any (gs : List Nat) (from_ : Nat) (w : World) (h8 : gs.length = 8) (hg : ∀ g ∈ gs, g < 65536) (hf : from_ ≤ 8) : Calls Tryd.prog 45 #[agg16 (bytesG gs), .int .i64 from_] w fun e w' => e = .returned (.int .i64 (rowZ (flags gs) from_ : Nat)) ∧ Below w.heap.size w w' := by
  have hA := ArrAt.new T16 w (bytesG gs)
  have HA := Lib.hid hA
  have HG := Lib.hid hg
  have H8 := Lib.hid h8
  obtain ⟨R, hR⟩ : ∃ R, rowZ (flags gs) from_ = R := ⟨_, rfl⟩
  rw [hR]
  have HR := Lib.hid hR
  have hB0 : Below w.heap.size w (w.alloc (.cells (a16 (bytesG gs)) T16)) := (Below.refl _ w).alloc (Nat.le_refl _) _
  have HB0 := Lib.hid hB0
  have hf8 : (from_ : Int) ≤ 8 := by omega
  have hf0 : (0 : Int) ≤ (from_ : Int) := by omega
  clear hA hg h8 hR hB0
  go_enter Tryd.func45, Tryd.ntmps45
  go_wp2_with fail
  go_loopg [5] (8 - from_) (fun g s5 wr => ∃ k : Nat, k + g = 8 ∧ from_ ≤ k ∧ s5 = .int .i64 k ∧ Aside (k + rowZ (flags gs) k = from_ + R) ∧ ArrAt T16 wr w.heap.size (bytesG gs) ∧ Below w.heap.size w wr)
  case atStart => exact ⟨from_, by omega, Nat.le_refl _, rfl, by
      show _ = _
      rw [HR.out], HA.out, HB0.out⟩
  case round =>
    obtain ⟨k, hk, hfk, rfl, hQ, hA, hB⟩ := hrel
    have k0 : (0 : Int) ≤ (k : Int) := by omega
    have kf : (from_ : Int) ≤ (k : Int) := by omega
    have HB := Lib.hid hB
    have HQ := Lib.hid hQ.out
    have HA := Lib.hid hA
    clear hB hQ hA
    by_cases h8 : k < 8
    · have k1 : (k : Int) < 8 := by omega
      obtain ⟨x, hx⟩ : ∃ x, gs[k]? = some x := ⟨_, List.getElem?_eq_getElem (by rw [H8.out]; exact h8)⟩
      have hx9 := HG.out x (List.mem_of_getElem? hx)
      have hb := bytesG_get gs k x hx
      have hfl := flags_get hx
      have hst := rowZ_step (flags gs) k
      rw [hfl] at hst
      obtain ⟨p, hp⟩ : ∃ p, 2 * k = p := ⟨_, rfl⟩
      rw [hp] at hb
      have e1 : (2 : Int) * (k : Int) = (p : Int) := by omega
      have p1 : (p : Int) ≤ 14 := by omega
      have p0 : (0 : Int) ≤ (p : Int) := by omega
      have t1 : ((p : Int) + 1).toNat = p + 1 := by omega
      obtain ⟨a, ha⟩ : ∃ a, x / 256 = a := ⟨_, rfl⟩
      obtain ⟨b, hbb⟩ : ∃ b, x % 256 = b := ⟨_, rfl⟩
      rw [ha, hbb] at hb
      have hc1 := HA.out.cell hb.1
      have hc2 := HA.out.cell hb.2
      have HX := Lib.hid (And.intro ha hbb)
      have HST := Lib.hid hst
      have HP := Lib.hid hp
      clear hb hfl hst ha hbb hp hx
      by_cases hz1 : a = 0
      · have z1 : ((a : Int) == 0) = true := by rw [hz1]; rfl
        by_cases hz2 : b = 0
        · have z2 : ((b : Int) == 0) = true := by rw [hz2]; rfl
          have hx0 : x = 0 := by have := HX.out.1; have := HX.out.2; omega
          have hst := HST.out
          rw [hx0] at hst
          have hq : k + 1 + rowZ (flags gs) (k + 1) = from_ + R := by
            have h1 := HQ.out
            have h2 : rowZ (flags gs) k = rowZ (flags gs) (k + 1) + 1 := hst
            omega
          have HQ2 := Lib.hid hq
          obtain ⟨g, rfl⟩ : ∃ g', gk = g' + 1 := ⟨gk - 1, by omega⟩
          clear hq hst hx0 hz1 hz2 hx9
          go_wp2_with fail
          go_roundg g
          case measure => omega
          case rel => exact ⟨k + 1, by omega, by omega, by go_num, HQ2.out, HA.out, HB.out⟩
        · have z2 : ((b : Int) == 0) = false := by
            rw [beq_eq_false_iff_ne]
            omega
          have hst := HST.out
          have hx0 : (x == 0) = false := by
            rw [beq_eq_false_iff_ne]
            intro h
            have := HX.out.2
            rw [h] at this
            exact hz2 this.symm
          rw [hx0] at hst
          have hq : (k : Int) - (from_ : Int) = (R : Int) := by
            have h1 := HQ.out
            have h2 : rowZ (flags gs) k = 0 := hst
            omega
          clear hst hx0 hz1 hz2 hx9
          go_wp2_with fail
          go_ret
          exact ⟨rfl, HB.out⟩
      · have z1 : ((a : Int) == 0) = false := by
          rw [beq_eq_false_iff_ne]
          omega
        have hst := HST.out
        have hx0 : (x == 0) = false := by
          rw [beq_eq_false_iff_ne]
          intro h
          have := HX.out.1
          rw [h] at this
          exact hz1 this.symm
        rw [hx0] at hst
        have hq : (k : Int) - (from_ : Int) = (R : Int) := by
          have h1 := HQ.out
          have h2 : rowZ (flags gs) k = 0 := hst
          omega
        clear hst hx0 hz1 hx9
        go_wp2_with fail
        go_ret
        exact ⟨rfl, HB.out⟩
    · have k1 : ¬ (k : Int) < 8 := by omega
      have hq : (k : Int) - (from_ : Int) = (R : Int) := by
        have h1 := HQ.out
        have h2 : rowZ (flags gs) k ≤ (flags gs).length - k := rowZ_le _ _
        have h3 : (flags gs).length = 8 := by unfold flags; rw [List.length_map, H8.out]
        omega
      go_wp2_with fail
      go_ret
      exact ⟨rfl, HB.out⟩
end Go.Proofs.YtoldhhaplndkcaaDoor
