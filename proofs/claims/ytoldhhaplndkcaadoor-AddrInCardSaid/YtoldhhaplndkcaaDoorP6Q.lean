/- The document's Print6. -/
import Derived.Test.YtoldhhaplndkcaaDoorRowR
import Derived.Deep.RegionHeld3
import Derived.IntWalk
namespace Go.Proofs.YtoldhhaplndkcaaDoor
open Go.RowKit Go.Shelf Go.Deep
set_option linter.unusedVariables false
set_option linter.unusedSimpArgs false

theorem held16 {b p q : Nat} {u v : Value} {w0 w4 w5 : World} (h : w4.cell? ⟨b, p, none⟩ = some u ∧ w4.cell? ⟨b, q, none⟩ = some v ∧ Below w0.heap.size w0 w4) (hB : Below w4.heap.size w4 w5) : w5.cell? ⟨b, p, none⟩ = some u ∧ w5.cell? ⟨b, q, none⟩ = some v ∧ Below w0.heap.size w0 w5 :=
  ⟨(hB.cell (p := ⟨b, p, none⟩) (World.block_lt_of_cell? w4 _ h.1)).trans h.1, (hB.cell (p := ⟨b, q, none⟩) (World.block_lt_of_cell? w4 _ h.2.1)).trans h.2.1, h.2.2.trans (hB.mono h.2.2.size)⟩
theorem txR_len (gs : List Nat) (f : Int) (l : Nat) (h : ∀ g, (hexL (gs.getD g 0)).length ≤ 4) : ∀ n i : Nat, (txR gs f l n i).length ≤ 6 * n
  | 0, i => Nat.le_refl _
  | n + 1, i => by
    unfold txR
    split
    · exact Nat.zero_le _
    · split
      · have := txR_len gs f l h n (i + l)
        show (txR gs f l n (i + l)).length + 1 + 1 ≤ _
        omega
      · have h1 := txR_len gs f l h n (i + 1)
        have h2 := h i
        rw [List.length_append, List.length_append]
        split
        · show 1 + _ ≤ _
          omega
        · show 0 + _ ≤ _
          omega
set_option maxRecDepth 100000 in
set_option maxHeartbeats 3200000 in
theorem rprint6_any (gs : List Nat) (w : World) (h8 : gs.length = 8) (hg : ∀ g ∈ gs, g < 65536) : Calls Tryd.prog 17 #[agg16 (bytesG gs)] w fun e w' => e = .returned (.string (bs (print6L gs))) ∧ Below w.heap.size w w' := by
  have hA := ArrAt.new T16 w (bytesG gs)
  have HA := Lib.hid hA
  have HG := Lib.hid hg
  have H8 := Lib.hid h8
  have hB0 : Below w.heap.size w (w.alloc (.cells (a16 (bytesG gs)) T16)) := (Below.refl _ w).alloc (Nat.le_refl _) _
  have HB0 := Lib.hid hB0
  have hbl : (bytesG gs).length = 16 := by rw [bytesG_len]; omega
  have HL := Lib.hid hbl
  have crow := fun k W (hk : k ≤ 8) => rrow_any gs k W h8 hg hk
  have Crow := Lib.hid crow
  have HR := Lib.hid (gap_same (zs := flags gs) (by unfold flags; rw [List.length_map, h8]))
  clear hA hg h8 hB0 hbl crow
  go_enter Tryd.func17, Tryd.ntmps17
  go_wp2_with fail
  go_loopg [3, 4, 5] 8 (fun g s3 s4 s5 wr => ∃ (k l : Nat) (f : Int), k + g = 8 ∧ s3 = .int .i64 f ∧ s4 = .int .i64 (l : Nat) ∧ s5 = .int .i64 k ∧ Aside (gapR (flags gs) k = (f, l)) ∧ Aside (-1 ≤ f ∧ f ≤ 8 ∧ l ≤ 8) ∧ ArrAt T16 wr w.heap.size (bytesG gs) ∧ Below w.heap.size w wr)
  case atStart => exact ⟨0, 1, -1, by omega, rfl, rfl, rfl, by
      show _ = _
      rfl, by show _ ∧ _; omega, HA.out, HB0.out⟩
  case round =>
    obtain ⟨k, l, f, hk, rfl, rfl, rfl, hQ, hF, hA, hB⟩ := hrel
    have k0 : (0 : Int) ≤ (k : Int) := by omega
    have HB := Lib.hid hB
    have HQ := Lib.hid hQ.out
    have HF := Lib.hid hF.out
    have HA := Lib.hid hA
    clear hB hQ hA hF
    cases gk with
    | succ g =>
      have k1 : (k : Int) < 8 := by omega
      have ld := run_loadA HA.out HL.out
      obtain ⟨r, hr⟩ : ∃ r, rowZ (flags gs) k = r := ⟨_, rfl⟩
      have c1 := Crow.out k wr (by omega)
      rw [hr] at c1
      have c2 := fun W => Crow.out k W (by omega)
      rw [hr] at c2
      have hst : gapR (flags gs) (k + 1) = if l < r then ((k : Int), r) else (f, l) := by
        show stepR (flags gs) k (gapR (flags gs) k) = _
        rw [HQ.out]
        show (if l < rowZ (flags gs) k then _ else _) = _
        rw [hr]
      have hr8 : r ≤ 8 := by
        have h2 : rowZ (flags gs) k ≤ (flags gs).length - k := rowZ_le _ _
        have h3 : (flags gs).length = 8 := by unfold flags; rw [List.length_map, H8.out]
        omega
      have C1 := Lib.hid c1
      have C2 := Lib.hid c2
      clear c1 c2 hr
      by_cases hlr : l < r
      · have t1 : (r : Int) > (l : Int) := by omega
        rw [if_pos hlr] at hst
        have HS := Lib.hid hst
        clear hst hlr
        go_wp2_with fail
        with_reducible refine C1.out.mono ?_
        rintro e w1 ⟨rfl, hB1⟩
        have HA1 := Lib.hid (HA.out.later hB1)
        have HB1 := Lib.hid (HB.out.trans (hB1.mono HB.out.size))
        have ld1 := run_loadA HA1.out HL.out
        clear hB1
        go_wp2_with fail
        with_reducible refine (C2.out _).mono ?_
        rintro e w2 ⟨rfl, hB2⟩
        have HA2 := Lib.hid (HA1.out.later hB2)
        have HB2 := Lib.hid (HB1.out.trans (hB2.mono HB1.out.size))
        clear hB2 ld1 ld
        go_wp2_with fail
        go_roundg g
        case measure => omega
        case rel => exact ⟨k + 1, r, (k : Int), by omega, rfl, rfl, by go_num, HS.out, by show _ ∧ _; omega, HA2.out, HB2.out⟩
      · have t1 : ¬ (r : Int) > (l : Int) := by omega
        rw [if_neg hlr] at hst
        have HS := Lib.hid hst
        clear hst hlr
        go_wp2_with fail
        with_reducible refine C1.out.mono ?_
        rintro e w1 ⟨rfl, hB1⟩
        have HA1 := Lib.hid (HA.out.later hB1)
        have HB1 := Lib.hid (HB.out.trans (hB1.mono HB.out.size))
        clear hB1 ld
        go_wp2_with fail
        go_roundg g
        case measure => omega
        case rel => exact ⟨k + 1, l, f, by omega, rfl, rfl, by go_num, HS.out, HF.out, HA1.out, HB1.out⟩
    | zero =>
      have k1 : ¬ (k : Int) < 8 := by omega
      have hk8 : k = 8 := by omega
      have hq : txR gs f l 9 0 = print6L gs ∧ ((f = -1 ∧ l = 1) ∨ (0 ≤ f ∧ 2 ≤ l ∧ f + l ≤ 8)) := by
        have h1 := HQ.out
        rw [hk8] at h1
        rcases HR.out with ⟨h2, h3⟩ | ⟨a, b, h2, h3, h4, h5⟩
        · rw [h1] at h2
          injection h2 with h6 h7
          subst h6
          subst h7
          refine ⟨?_, .inl ⟨rfl, rfl⟩⟩
          rw [txR_none gs H8.out]
          unfold print6L
          rw [h3]
        · rw [h1] at h2
          injection h2 with h6 h7
          subst h6
          subst h7
          refine ⟨?_, .inr ⟨by omega, h4, by omega⟩⟩
          rw [txR_gap gs a l H8.out h4 h5]
          unfold print6L
          rw [h3]
      have hlen : (print6L gs).length ≤ 54 := by
        rw [← hq.1]
        exact txR_len gs f l (fun g => hexL_len _) 9 0
      have HE := Lib.hid hq.1
      have HN := Lib.hid hlen
      have hfl := hq.2
      have f0 : -1 ≤ f := by omega
      have f1 : f ≤ 8 := by omega
      have l0 : (0 : Int) ≤ (l : Int) := by omega
      have l1 : (l : Int) ≤ 8 := by omega
      have HFL := Lib.hid hfl
      clear hq hk8 hlen hfl
      go_wp2_with fail
      go_loopg [6, 7] 8 (fun g s6 s7 wr => ∃ (i n : Nat) (S : ByteArray), 8 ≤ i + g ∧ i ≤ 8 ∧ 9 ≤ n + i ∧ s6 = .string S ∧ s7 = .int .i64 i ∧ Aside (S.data.toList ++ txR gs f l n i = print6L gs) ∧ ArrAt T16 wr w.heap.size (bytesG gs) ∧ Below w.heap.size w wr)
      case atStart => exact ⟨0, 9, ⟨#[]⟩, by omega, by omega, by omega, rfl, rfl, by
        show _ = _
        exact HE.out, HA.out, HB.out⟩
      case round =>
        obtain ⟨i, n, S, hig, hi8, hn, rfl, rfl, hQ2, hA2, hB2⟩ := hrel
        have i0 : (0 : Int) ≤ (i : Int) := by omega
        have i8 : (i : Int) ≤ 8 := by omega
        have HB2 := Lib.hid hB2
        have HQ2 := Lib.hid hQ2.out
        have HA2 := Lib.hid hA2
        clear hB2 hQ2 hA2
        obtain ⟨n, rfl⟩ : ∃ m, n = m + 1 := ⟨n - 1, by omega⟩
        have hS9 : S.size ≤ 54 := by
          have h1 := HN.out
          rw [← HQ2.out, List.length_append, size_list] at h1
          omega
        by_cases hi : i < 8
        · have j1 : (i : Int) < 8 := by omega
          by_cases hif : (i : Int) = f
          · have t1 : ((i : Int) == f) = true := by rw [hif]; exact beq_self_eq_true _
            have hq := HQ2.out
            unfold txR at hq
            rw [if_neg (by omega), if_pos hif] at hq
            have hl8 : i + l ≤ 8 := by rcases HFL.out with ⟨h1, h2⟩ | ⟨h1, h2, h3⟩ <;> omega
            have hl1 : 1 ≤ l := by rcases HFL.out with ⟨h1, h2⟩ | ⟨h1, h2, h3⟩ <;> omega
            obtain ⟨D, hD⟩ : ∃ D, S ++ ⟨#[58, 58]⟩ = D := ⟨_, rfl⟩
            have a1 : ∀ W, (Op.stringOp .add S ⟨#[58, 58]⟩).run Tryd.prog W = .ok (.string D) W := fun W => add_strs (by show S.size + 2 ≤ _; omega) hD W
            have hq2 : D.data.toList ++ txR gs f l n (i + l) = print6L gs := by
              rw [← hq, ← hD, append_list, List.append_assoc]
              rfl
            have HX := Lib.hid hq2
            obtain ⟨g, rfl⟩ : ∃ g', gk = g' + 1 := ⟨gk - 1, by omega⟩
            have l2 : (1 : Int) ≤ (l : Int) := by omega
            clear hq hq2 hif hD
            go_wp2_with fail
            go_roundg g
            case measure => omega
            case rel => exact ⟨i + l, n, D, by omega, hl8, by omega, rfl, by
              rw [show (i : Int) + (l : Int) = ((i + l : Nat) : Int) by omega], HX.out, HA2.out, HB2.out⟩
          · have t1 : ((i : Int) == f) = false := by
              rw [beq_eq_false_iff_ne]
              exact hif
            have hq := HQ2.out
            unfold txR at hq
            rw [if_neg (by omega), if_neg hif] at hq
            obtain ⟨x, hx⟩ : ∃ x, gs[i]? = some x := ⟨_, List.getElem?_eq_getElem (by rw [H8.out]; exact hi)⟩
            have hx9 := HG.out x (List.mem_of_getElem? hx)
            have hb := bytesG_get gs i x hx
            rw [List.getD_eq_getElem?_getD, hx] at hq
            have hq : S.data.toList ++ ((if 0 < i ∧ ¬ (i : Int) = f + l then [58] else []) ++ (hexL x ++ txR gs f l n (i + 1))) = print6L gs := hq
            have cs := fun W => rshort_any (x / 256) (x % 256) W (by omega) (by omega)
            rw [strip_hex hx9] at cs
            obtain ⟨D, hD⟩ : ∃ D, bs (hexL x) = D := ⟨_, rfl⟩
            have hDz : D.size ≤ 4 := by rw [← hD, bs_size]; exact hexL_len x
            have hDl : D.data.toList = hexL x := by rw [← hD, bs_list]
            rw [hD] at cs
            obtain ⟨p, hp⟩ : ∃ p, 2 * i = p := ⟨_, rfl⟩
            rw [hp] at hb
            have e1 : (2 : Int) * (i : Int) = (p : Int) := by omega
            have p1 : (p : Int) ≤ 14 := by omega
            have p0 : (0 : Int) ≤ (p : Int) := by omega
            obtain ⟨a, ha⟩ : ∃ a, x / 256 = a := ⟨_, rfl⟩
            obtain ⟨b, hbb⟩ : ∃ b, x % 256 = b := ⟨_, rfl⟩
            rw [ha, hbb] at hb cs
            have HCs := Lib.hid cs
            have HX := Lib.hid hb
            have HD := Lib.hid hDl
            clear hb ha hbb hp hx cs hDl hD hx9
            by_cases hi0 : 0 < i
            · have t2 : (i : Int) > 0 := by omega
              by_cases hfl : (i : Int) = f + l
              · have t3 : ((i : Int) == f + (l : Int)) = true := by rw [hfl]; exact beq_self_eq_true _
                rw [if_neg (by intro h; exact h.2 hfl), ← HD.out] at hq
                have HQ3 : Hid (S.data.toList ++ (D.data.toList ++ txR gs f l n (i + 1)) = print6L gs) := Lib.hid hq
                have hEz : S.size ≤ 55 := by omega
                clear hq hfl hif
                go_wp2_with fail
                obtain ⟨F, hF⟩ : ∃ F, S ++ D = F := ⟨_, rfl⟩
                have a1 : ∀ W, (Op.stringOp .add S D).run Tryd.prog W = .ok (.string F) W := fun W => add_strs (by omega) hF W
                have hq4 : F.data.toList ++ txR gs f l n (i + 1) = print6L gs := by
                  rw [← HQ3.out, ← hF, append_list, List.append_assoc]
                have HQ4 := Lib.hid hq4
                have hc1 := HA2.out.cell HX.out.1
                have hc2 := HA2.out.cell HX.out.2
                have t9 : ((p : Int) + 1).toNat = p + 1 := by omega
                have e4 : (0 : Int) ≤ (p : Int) + 1 := by omega
                have p3 : (p : Int) < 16 := by omega
                have p4 : (p : Int) + 1 < 16 := by omega
                obtain ⟨g, rfl⟩ : ∃ g', gk = g' + 1 := ⟨gk - 1, by omega⟩
                have e2 : IntKind.i64.wrap ((p : Int)) = (p : Int) := IntWalk.i64_in _ (by omega)
                have e3 : IntKind.i64.wrap ((p : Int) + 1) = (p : Int) + 1 := IntWalk.i64_in _ (by omega)
                clear hF hq4
                go_region_held3 (fun w' => w'.cell? ⟨w.heap.size, p, none⟩ = some (.int .u8 (a : Int)) ∧ w'.cell? ⟨w.heap.size, p + 1, none⟩ = some (.int .u8 (b : Int)) ∧ Below wr.heap.size wr w')
                  (first | exact ⟨hc1, hc2, Below.refl _ _⟩ | exact ⟨hc1, hc2, (Below.refl _ _).drew⟩ | exact held16 (by assumption) (by assumption) | assumption)
                  (first | (go_at_call 46; refine (HCs.out _).mono ?_; rintro e5 w5 ⟨rfl, hB5⟩))
                rename_i hH
                have hA9 := HA2.out.later hH.2.2
                have hB9 := HB2.out.trans (hH.2.2.mono HB2.out.size)
                have HF9 := Lib.hid (And.intro hA9 hB9)
                clear hH hB5 hA9 hB9 e2 e3
                go_wp2_with fail
                go_roundg g
                case measure => omega
                case rel => exact ⟨i + 1, n, F, by omega, by omega, by omega, rfl, by go_num, HQ4.out, HF9.out.1, HF9.out.2⟩
              · have t3 : ((i : Int) == f + (l : Int)) = false := by
                  rw [beq_eq_false_iff_ne]
                  exact hfl
                obtain ⟨E, hE⟩ : ∃ E, S ++ ⟨#[58]⟩ = E := ⟨_, rfl⟩
                have a0 : ∀ W, (Op.stringOp .add S ⟨#[58]⟩).run Tryd.prog W = .ok (.string E) W := fun W => add_strs (by show S.size + 1 ≤ _; omega) hE W
                have hEz : E.size ≤ 55 := by rw [← hE, ByteArray.size_append]; show S.size + 1 ≤ _; omega
                rw [if_pos ⟨hi0, hfl⟩, ← HD.out] at hq
                have hq3 : E.data.toList ++ (D.data.toList ++ txR gs f l n (i + 1)) = print6L gs := by
                  rw [← hq, ← hE, append_list, List.append_assoc]
                have HQ3 := Lib.hid hq3
                clear hq hfl hE hq3 hif
                go_wp2_with fail
                obtain ⟨F, hF⟩ : ∃ F, E ++ D = F := ⟨_, rfl⟩
                have a1 : ∀ W, (Op.stringOp .add E D).run Tryd.prog W = .ok (.string F) W := fun W => add_strs (by omega) hF W
                have hq4 : F.data.toList ++ txR gs f l n (i + 1) = print6L gs := by
                  rw [← HQ3.out, ← hF, append_list, List.append_assoc]
                have HQ4 := Lib.hid hq4
                have hc1 := HA2.out.cell HX.out.1
                have hc2 := HA2.out.cell HX.out.2
                have t9 : ((p : Int) + 1).toNat = p + 1 := by omega
                have e4 : (0 : Int) ≤ (p : Int) + 1 := by omega
                have p3 : (p : Int) < 16 := by omega
                have p4 : (p : Int) + 1 < 16 := by omega
                obtain ⟨g, rfl⟩ : ∃ g', gk = g' + 1 := ⟨gk - 1, by omega⟩
                have e2 : IntKind.i64.wrap ((p : Int)) = (p : Int) := IntWalk.i64_in _ (by omega)
                have e3 : IntKind.i64.wrap ((p : Int) + 1) = (p : Int) + 1 := IntWalk.i64_in _ (by omega)
                clear hF hq4
                go_region_held3 (fun w' => w'.cell? ⟨w.heap.size, p, none⟩ = some (.int .u8 (a : Int)) ∧ w'.cell? ⟨w.heap.size, p + 1, none⟩ = some (.int .u8 (b : Int)) ∧ Below wr.heap.size wr w')
                  (first | exact ⟨hc1, hc2, Below.refl _ _⟩ | exact ⟨hc1, hc2, (Below.refl _ _).drew⟩ | exact held16 (by assumption) (by assumption) | assumption)
                  (first | (go_at_call 46; refine (HCs.out _).mono ?_; rintro e5 w5 ⟨rfl, hB5⟩))
                rename_i hH
                have hA9 := HA2.out.later hH.2.2
                have hB9 := HB2.out.trans (hH.2.2.mono HB2.out.size)
                have HF9 := Lib.hid (And.intro hA9 hB9)
                clear hH hB5 hA9 hB9 e2 e3
                go_wp2_with fail
                go_roundg g
                case measure => omega
                case rel => exact ⟨i + 1, n, F, by omega, by omega, by omega, rfl, by go_num, HQ4.out, HF9.out.1, HF9.out.2⟩
            · have t2 : ¬ (i : Int) > 0 := by omega
              rw [if_neg (by omega), ← HD.out] at hq
              have HQ3 : Hid (S.data.toList ++ (D.data.toList ++ txR gs f l n (i + 1)) = print6L gs) := Lib.hid hq
              have hEz : S.size ≤ 55 := by omega
              clear hq hif
              go_wp2_with fail
              obtain ⟨F, hF⟩ : ∃ F, S ++ D = F := ⟨_, rfl⟩
              have a1 : ∀ W, (Op.stringOp .add S D).run Tryd.prog W = .ok (.string F) W := fun W => add_strs (by omega) hF W
              have hq4 : F.data.toList ++ txR gs f l n (i + 1) = print6L gs := by
                rw [← HQ3.out, ← hF, append_list, List.append_assoc]
              have HQ4 := Lib.hid hq4
              have hc1 := HA2.out.cell HX.out.1
              have hc2 := HA2.out.cell HX.out.2
              have t9 : ((p : Int) + 1).toNat = p + 1 := by omega
              have e4 : (0 : Int) ≤ (p : Int) + 1 := by omega
              have p3 : (p : Int) < 16 := by omega
              have p4 : (p : Int) + 1 < 16 := by omega
              obtain ⟨g, rfl⟩ : ∃ g', gk = g' + 1 := ⟨gk - 1, by omega⟩
              have e2 : IntKind.i64.wrap ((p : Int)) = (p : Int) := IntWalk.i64_in _ (by omega)
              have e3 : IntKind.i64.wrap ((p : Int) + 1) = (p : Int) + 1 := IntWalk.i64_in _ (by omega)
              clear hF hq4
              go_region_held3 (fun w' => w'.cell? ⟨w.heap.size, p, none⟩ = some (.int .u8 (a : Int)) ∧ w'.cell? ⟨w.heap.size, p + 1, none⟩ = some (.int .u8 (b : Int)) ∧ Below wr.heap.size wr w')
                (first | exact ⟨hc1, hc2, Below.refl _ _⟩ | exact ⟨hc1, hc2, (Below.refl _ _).drew⟩ | exact held16 (by assumption) (by assumption) | assumption)
                (first | (go_at_call 46; refine (HCs.out _).mono ?_; rintro e5 w5 ⟨rfl, hB5⟩))
              rename_i hH
              have hA9 := HA2.out.later hH.2.2
              have hB9 := HB2.out.trans (hH.2.2.mono HB2.out.size)
              have HF9 := Lib.hid (And.intro hA9 hB9)
              clear hH hB5 hA9 hB9 e2 e3
              go_wp2_with fail
              go_roundg g
              case measure => omega
              case rel => exact ⟨i + 1, n, F, by omega, by omega, by omega, rfl, by go_num, HQ4.out, HF9.out.1, HF9.out.2⟩
        · have j1 : ¬ (i : Int) < 8 := by omega
          have hF : S = bs (print6L gs) := by
            have hq := HQ2.out
            unfold txR at hq
            rw [if_pos (by omega), List.append_nil] at hq
            exact ((bs_eq_iff _ S).2 hq.symm).symm
          have HF2 := Lib.hid hF
          clear hF
          go_wp2_with fail
          go_ret
          rw [HF2.out]
          exact ⟨rfl, HB2.out⟩
end Go.Proofs.YtoldhhaplndkcaaDoor
