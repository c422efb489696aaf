/- ShowFull: the walk. -/
import Derived.Test.YtffkaphbgfdpaaaGreatDoorFullL
import Derived.Test.YtffkaphbgfdpaaaGreatDoorShowW
import Derived.Test.YtffkaphbgfdpaaaGreatDoorMf
import Derived.Deep.QuietTactic
import Derived.Deep.Cut
namespace Go.Proofs.YtffkaphbgfdpaaaGreatDoor
open Go.RowKit Go.Shelf Go.Deep T
set_option linter.unusedVariables false
set_option linter.unusedSimpArgs false
set_option maxRecDepth 100000

theorem boxL_len (n : Node) (u : List UInt8) : (boxL n u).length ≤ u.length + 2 := by
  unfold boxL
  split <;> simp
theorem told_err (ns : List Node) (h : (toldL true ns).2 ≠ 0) : ((toldL true ns).2 != 0) = true := by simpa using h
theorem c40 : (⟨#[40]⟩ : ByteArray) = bs [40] := rfl
theorem c41 : (⟨#[41]⟩ : ByteArray) = bs [41] := rfl
theorem cAnd : (⟨#[32, 97, 110, 100, 32]⟩ : ByteArray) = bs [32, 97, 110, 100, 32] := rfl
theorem cOr : (⟨#[32, 111, 114, 32]⟩ : ByteArray) = bs [32, 111, 114, 32] := rfl
theorem cNot : (⟨#[110, 111, 116, 32]⟩ : ByteArray) = bs [110, 111, 116, 32] := rfl
theorem below_drewN (w : World) (n : Nat) : Below w.heap.size w (w.drewN n) := ⟨rfl, rfl, rfl, Nat.le_refl _, fun _ _ => rfl⟩
theorem bs_len (l : List UInt8) : (bs l).size = l.length := by simp [bs, ByteArray.size]
def wantU (a s b : List UInt8) (i : Nat) : List UInt8 := if i = 0 then [] else if i = 1 then a ++ s else a ++ (s ++ b)
theorem last_cell {w : World} {g : Nat} {x : List Node} (h : Ns w (some ⟨g, 0, none⟩) x) (hp : 0 < x.length) : w.cell? ⟨g, (x.length - 1) * 24, none⟩ = some (.int .i64 (lastN x).kind) := by
  obtain ⟨b, o, e, hn⟩ := h hp
  cases e
  have := nodeIn_of (hn (x.length - 1) (by omega)) 0 _ rfl
  rwa [add_plain, Nat.add_zero, Nat.zero_add] at this
theorem arity_quiet (k : Int) (w : World) : Calls Tryz.prog 18 #[.int .i64 k] w fun e w' => e = .returned (.int .i64 (arI k)) ∧ w' = w := (refarity_any k w).mono fun _ _ ⟨a, b⟩ => ⟨a, b.symm⟩
set_option maxHeartbeats 16000000 in
theorem full_law (A : Option Addr) (c : Nat) (ns : List Node) (w : World) (hA : Ns w A ns) (hok : NodesOk ns) (hnA : A = none → c = 0) (hcA : ns.length ≤ c) (hrA : c ≤ 1954687338211) (ht : Tab10 w) (hd : Deb w) :
    Calls Tryz.prog 5 #[.slice A ns.length c] w fun e w' => e = .returned (.bool true) ∧ Below w.heap.size w w' := by
  have HA := Lib.hid hA
  have Hok := Lib.hid hok
  have Hn := Lib.hid hnA
  have HT := Lib.hid ht
  have HD := Lib.hid hd
  have hl2 : ns.length ≤ 1954687338211 := by omega
  have Hlen := Lib.hid hok.len
  clear hA hok hnA hrA ht hd
  go_enter Tryz.func5, Tryz.ntmps5
  go_wp2_with fail
  refine (copy_any A c ns _ HA.out Hlen.out Hn.out).mono ?_
  rintro e w1 ⟨g, c1, rfl, hown, hB1⟩
  have HO := Lib.hid hown
  have HB1 := Lib.hid hB1
  clear hown hB1
  go_wp2_with fail
  have c1' := full_any ns (some ⟨g, 0, none⟩) c1 w1 HO.out.is Hok.out (HT.out.later HB1.out) (HD.out.later HB1.out)
  obtain ⟨S, hS⟩ : ∃ S, toldL true ns = S := ⟨_, rfl⟩
  rw [hS] at c1'
  have HS := Lib.hid hS
  clear hS
  obtain ⟨tx, er⟩ := S
  refine c1'.mono ?_
  rintro e w2 ⟨rfl, hB2⟩
  have HB2 := Lib.hid (HB1.out.trans (hB2.mono HB1.out.size))
  clear hB2 HO HB1 c1'
  go_wp2_with fail
  refine (copy_any A c ns _ (HA.out.later HB2.out) Hlen.out Hn.out).mono ?_
  rintro e w3 ⟨g3, c3, rfl, hown, hB3⟩
  have HO := Lib.hid hown
  have HB3 := Lib.hid (HB2.out.trans (hB3.mono HB2.out.size))
  clear hown hB3 HB2
  go_wp2_with fail
  refine (parts_any (some ⟨g3, 0, none⟩) c3 ns w3 HO.out.is (by omega) HO.out.capLe).mono ?_
  rintro e w4 ⟨hB4, hres⟩
  have HB4 := Lib.hid (HB3.out.trans (hB4.mono HB3.out.size))
  clear hB4 HO HB3
  have key : partsT ns = none ∧ e = .returned (.tuple #[.slice none 0 0, .bool false]) ∨ ∃ ls PA pc, partsT ns = some ls ∧ e = .returned (.tuple #[.slice PA ls.length pc, .bool true]) ∧ Pts w4 PA ls := by
    rcases hres with h | ⟨h, rfl⟩ | ⟨ls, g, cap, gs, h, hpos, rfl, hNN⟩
    · exact .inl h
    · exact .inr ⟨[], none, 0, h, rfl, fun i hi => by cases hi⟩
    · exact .inr ⟨ls, _, cap, h, rfl, Pts.of_own hNN⟩
  clear hres
  have HAW := Lib.hid (fun (W : World) (hB : Below w.heap.size w W) => (awake13 W (HT.out.later hB) (HD.out.later hB)).mono (R' := fun e w' => e = .returned (.bool true) ∧ Below w.heap.size w w') fun e w' h => ⟨h.1, hB.trans (h.2.mono hB.size)⟩)
  by_cases he : er = 0
  case neg =>
    have her : (er != 0) = true := by simpa using he
    clear he
    rcases key with ⟨hno, rfl⟩ | ⟨ls, PA, pc, hls, rfl, hP⟩
    · clear hno
      go_wp2_with fail
      refine (HAW.out _ HB4.out).mono ?_
      rintro e w9 ⟨rfl, hB9⟩
      have HB9 := Lib.hid hB9
      clear hB9
      go_wp2_with fail
      go_ret
      exact ⟨rfl, HB9.out⟩
    · clear hls hP
      go_wp2_with fail
      refine (HAW.out _ HB4.out).mono ?_
      rintro e w9 ⟨rfl, hB9⟩
      have HB9 := Lib.hid hB9
      clear hB9
      go_wp2_with fail
      go_ret
      exact ⟨rfl, HB9.out⟩
  subst he
  rcases key with ⟨hno, rfl⟩ | ⟨ls, PA, pc, hls, rfl, hP⟩
  · clear hno
    go_wp2_with fail
    refine (HAW.out _ HB4.out).mono ?_
    rintro e w9 ⟨rfl, hB9⟩
    have HB9 := Lib.hid hB9
    clear hB9
    go_wp2_with fail
    go_ret
    exact ⟨rfl, HB9.out⟩
  obtain ⟨hpos, hl2', hpp, hfl⟩ := parts_shape hls
  have HP := Lib.hid hP
  have HLS := Lib.hid hls
  have Hpos := Lib.hid hpos
  obtain ⟨b, o, rfl, hn⟩ := (HA.out.later HB4.out) hpos
  have h1 := hn (ns.length - 1) (by omega)
  obtain ⟨root, hroot⟩ : ∃ n, lastN ns = n := ⟨_, rfl⟩
  have hroot2 := hroot
  unfold lastN at hroot2
  rw [hroot2] at h1
  have H1 := Lib.hid h1
  have HR := Lib.hid hroot
  clear hls hfl hpp hP hn hl2' hroot hroot2
  by_cases hlong : 300 < ns.length
  · have i0 : (300 : Int) < (ns.length : Int) := by omega
    clear hlong
    go_wp2_with fail
    refine (HAW.out _ HB4.out).mono ?_
    rintro e w9 ⟨rfl, hB9⟩
    have HB9 := Lib.hid hB9
    clear hB9
    go_wp2_with fail
    go_ret
    exact ⟨rfl, HB9.out⟩
  have i0 : ¬ (300 : Int) < (ns.length : Int) := by omega
  have i1 : (0 : Int) ≤ (ns.length : Int) - 1 := by omega
  have i2 : (ns.length : Int) - 1 < (ns.length : Int) := by omega
  have HB5 := Lib.hid (HB4.out.alloc HB4.out.size (.cells (enc root) 37))
  have hB45 : Below w4.heap.size w4 (w4.alloc (.cells (enc root) 37)) := (Below.refl _ _).alloc (Nat.le_refl _) _
  have HP5 := Lib.hid (HP.out.later hB45)
  have hkc : (w4.alloc (.cells (enc root) 37)).cell? ⟨w4.heap.size, 0, none⟩ = some (.int .i64 root.kind) := (cell_of_row _ _ 0 _ _ _ (heap_alloc_new w4 _)).trans rfl
  have HKC := Lib.hid hkc
  clear hlong hpos hB45 HB4 HP
  by_cases hk : root.kind = 7 ∨ root.kind = 8 ∨ root.kind = 9
  case neg =>
    have k7 : (root.kind != 7) = true := by simp; omega
    have k8 : (root.kind != 8) = true := by simp; omega
    have k9 : (root.kind != 9) = true := by simp; omega
    clear hk
    go_wp2_with fail
    refine (HAW.out _ HB5.out).mono ?_
    rintro e w9 ⟨rfl, hB9⟩
    have HB9 := Lib.hid hB9
    clear hB9
    go_wp2_with fail
    go_ret
    exact ⟨rfl, HB9.out⟩
  have hfp := full_parts Hok.out (by rw [HS.out]) (by rw [HR.out]; exact hk)
  rw [HS.out, HR.out] at hfp
  clear hk
  rcases hfp with ⟨x, u, k9, hpt, hx, htx⟩ | ⟨x, u, y, v, k78, hpt, hx, hy, htx⟩
  case inl =>
    rw [k9] at hkc
    have HKK := Lib.hid k9
    clear k9
    have HX := Lib.hid hx
    obtain ⟨X, hX⟩ : ∃ X, boxL (lastN x) u = X := ⟨_, rfl⟩
    have hXl := boxL_len (lastN x) u
    have hul := HX.out.len
    rw [hX] at htx hXl
    have HTX := Lib.hid htx
    have HXE := Lib.hid hX
    have HXL := Lib.hid hXl
    have HUL := Lib.hid hul
    have hls : ls = [x] := Option.some.inj (HLS.out.symm.trans hpt)
    subst hls
    clear hpt hx htx hX hXl hul  HLS HR
    go_wp2_with fail
    go_loopw [9, 7] (fun z y0 wr => ∃ i : Nat, i ≤ 1 ∧ z = .int .i64 i ∧ y0 = .string (bs (wantU X [] [] i)) ∧ Below (w4.alloc (.cells (enc root) 37)).heap.size (w4.alloc (.cells (enc root) 37)) wr) (fun z _ _ => 1 - (intOf z).toNat)
    case atStart => exact ⟨0, by omega, rfl, rfl, Below.refl _ _⟩
    case round =>
      obtain ⟨i, hi, rfl, rfl, hB⟩ := hrel
      have HB := Lib.hid hB
      clear hB
      by_cases hi0 : i = 0
      case pos =>
        subst hi0
        clear hi
        obtain ⟨gp, g2, cp, ePA, hcell, hNp⟩ := (HP5.out.later HB.out) 0 (by simp)
        cases ePA
        rw [show List.getD [x] 0 [] = x from rfl] at hcell hNp
        have HNp := Lib.hid hNp
        have HCP := Lib.hid hcell
        have hw0 : wantU X [] [] 0 = [] := rfl
        rw [hw0]
        clear hNp hw0
        go_upto_region 12 with fail
        go_wp2_with fail
        have q1 := full_any x (some ⟨g2, 0, none⟩) cp wr HNp.out HX.out.ok ((HT.out.later HB5.out).later HB.out) ((HD.out.later HB5.out).later HB.out)
        rw [HX.out.told] at q1
        refine q1.mono ?_
        rintro e w6 ⟨rfl, hB6⟩
        have hcell6 := (hB6.cell (World.block_lt_of_cell? _ _ HCP.out)).trans HCP.out
        have hkc6 := ((HB.out.trans (hB6.mono HB.out.size)).cell (World.block_lt_of_cell? _ _ HKC.out)).trans HKC.out
        rw [HKK.out] at hkc6
        have hlast := last_cell (HNp.out.later hB6) HX.out.pos
        have HB6 := Lib.hid (HB.out.trans (hB6.mono HB.out.size))
        obtain ⟨m, hm⟩ : ∃ m, x.length = m := ⟨_, rfl⟩
        have hm0 := HX.out.pos
        rw [hm] at hcell6 hlast hm0 ⊢
        obtain ⟨kd, hkd⟩ : ∃ k, (lastN x).kind = k := ⟨_, rfl⟩
        rw [hkd] at hlast
        have HKD := Lib.hid hkd
        have j0 : (0 : Int) ≤ (m : Int) - 1 := by omega
        have j1 : (m : Int) - 1 < (m : Int) := by omega
        have hml : m ≤ 1954687338260 := by have := HX.out.ok.len; omega
        have hwm : IntKind.i64.wrap ((m : Int) - 1) = (m : Int) - 1 := IntWalk.i64_in _ (by omega)
        clear q1 hcell hB6 hkd hm
        go_upto_region 15 with fail
        go_quiet (first | (go_at_call 18; exact Calls.quiet_of_same (arity_quiet _ _)))
        obtain ⟨ar, har⟩ : ∃ r, arI kd = r := ⟨_, rfl⟩
        simp only [har]
        have HAR := Lib.hid har
        clear har
        have zu : (bs u).size ≤ 10000000 := by rw [bs_len]; exact HX.out.len
        have zp : (bs []).size ≤ 20000000 := by rw [bs_len]; simp only [List.length_append, List.length_cons, List.length_nil]; omega
        by_cases hz : 0 < ar
        · have hXe : X = 40 :: (u ++ [41]) := by rw [← HXE.out]; unfold boxL; rw [HKD.out, HAR.out, if_pos hz]
          have HXe := Lib.hid hXe
          have n1 : ¬ 9223372036854775807 < 1 + (bs u).size := by omega
          have n2 : ¬ 9223372036854775807 < 1 + (bs u).size + 1 := by omega
          have n3 : ¬ 9223372036854775807 < (bs []).size + (1 + (bs u).size + 1) := by omega
          have n4 : ¬ 9223372036854775807 < (bs []).size + (1 + (bs u).size + 1) + 0 := by omega
          clear hXe zu zp
          go_wp2_with fail
          go_round
          case rel => exact ⟨0 + 1, by omega, by go_num, by rw [show wantU X [] [] (0 + 1) = X ++ [] from rfl]; exact congrArg Value.string (by rw [HXe.out]; simp only [c40, c41, cAnd, cOr, bs_append]; first | rfl | (congr 1; simp; done)), HB6.out.trans ((below_drewN _ _).mono HB6.out.size)⟩
          case measure => simp [intOf]
        · have hXe : X = u := by rw [← HXE.out]; unfold boxL; rw [HKD.out, HAR.out, if_neg hz]
          have HXe := Lib.hid hXe
          have n3 : ¬ 9223372036854775807 < (bs []).size + (bs u).size := by omega
          have n4 : ¬ 9223372036854775807 < (bs []).size + (bs u).size + 0 := by omega
          clear hXe zu zp
          go_wp2_with fail
          go_round
          case rel => exact ⟨0 + 1, by omega, by go_num, by rw [show wantU X [] [] (0 + 1) = X ++ [] from rfl]; exact congrArg Value.string (by rw [HXe.out]; simp only [c40, c41, cAnd, cOr, bs_append]; first | rfl | (congr 1; simp; done)), HB6.out.trans ((below_drewN _ _).mono HB6.out.size)⟩
          case measure => simp [intOf]
      obtain rfl : i = 1 := by omega
      clear hi hi0
      have hw0 : wantU X [] [] 1 = X := by simp [wantU]
      rw [hw0]
      have hkc6 := (HB.out.cell (World.block_lt_of_cell? _ _ HKC.out)).trans HKC.out
      rw [HKK.out] at hkc6
      have zt : (bs (X)).size ≤ 50000000 := by rw [bs_len]; (try simp only [List.length_append, List.length_cons, List.length_nil]); have := HXL.out; have := HUL.out; omega
      have n5 : ¬ 9223372036854775807 < 4 + (bs (X)).size := by omega
      have htx : bs tx = ⟨#[110, 111, 116, 32]⟩ ++ bs (X) := by rw [HTX.out]; simp only [cNot, bs_append]
      have HBE := Lib.hid (HB5.out.trans (HB.out.mono HB5.out.size))
      clear hw0 zt
      go_wp2_with fail
      refine (HAW.out _ HBE.out).mono ?_
      rintro e w9 ⟨rfl, hB9⟩
      have HB9 := Lib.hid hB9
      clear hB9
      go_wp2_with fail
      go_ret
      exact ⟨rfl, HB9.out⟩
  case inr =>
    rcases k78 with k9 | k9
    · rw [k9] at hkc
      rw [k9] at htx
      rw [if_pos rfl] at htx
      have HKK := Lib.hid k9
      clear k9
      have HX := Lib.hid hx
      have HY := Lib.hid hy
      obtain ⟨X, hX⟩ : ∃ X, boxL (lastN x) u = X := ⟨_, rfl⟩
      have hXl := boxL_len (lastN x) u
      have hul := HX.out.len
      rw [hX] at htx hXl
      obtain ⟨Y, hY⟩ : ∃ Y, boxL (lastN y) v = Y := ⟨_, rfl⟩
      have hYl := boxL_len (lastN y) v
      have hvl := HY.out.len
      rw [hY] at htx hYl
      have HTX := Lib.hid htx
      have HXE := Lib.hid hX
      have HXL := Lib.hid hXl
      have HUL := Lib.hid hul
      have HYE := Lib.hid hY
      have HYL := Lib.hid hYl
      have HVL := Lib.hid hvl
      have hls : ls = [x, y] := Option.some.inj (HLS.out.symm.trans hpt)
      subst hls
      clear hpt hx htx hX hXl hul hy hY hYl hvl HLS HR
      go_wp2_with fail
      go_loopw [9, 7] (fun z y0 wr => ∃ i : Nat, i ≤ 2 ∧ z = .int .i64 i ∧ y0 = .string (bs (wantU X [32, 97, 110, 100, 32] Y i)) ∧ Below (w4.alloc (.cells (enc root) 37)).heap.size (w4.alloc (.cells (enc root) 37)) wr) (fun z _ _ => 2 - (intOf z).toNat)
      case atStart => exact ⟨0, by omega, rfl, rfl, Below.refl _ _⟩
      case round =>
        obtain ⟨i, hi, rfl, rfl, hB⟩ := hrel
        have HB := Lib.hid hB
        clear hB
        by_cases hi0 : i = 0
        case pos =>
          subst hi0
          clear hi
          obtain ⟨gp, g2, cp, ePA, hcell, hNp⟩ := (HP5.out.later HB.out) 0 (by simp)
          cases ePA
          rw [show List.getD [x, y] 0 [] = x from rfl] at hcell hNp
          have HNp := Lib.hid hNp
          have HCP := Lib.hid hcell
          have hw0 : wantU X [32, 97, 110, 100, 32] Y 0 = [] := rfl
          rw [hw0]
          clear hNp hw0
          go_upto_region 12 with fail
          go_wp2_with fail
          have q1 := full_any x (some ⟨g2, 0, none⟩) cp wr HNp.out HX.out.ok ((HT.out.later HB5.out).later HB.out) ((HD.out.later HB5.out).later HB.out)
          rw [HX.out.told] at q1
          refine q1.mono ?_
          rintro e w6 ⟨rfl, hB6⟩
          have hcell6 := (hB6.cell (World.block_lt_of_cell? _ _ HCP.out)).trans HCP.out
          have hkc6 := ((HB.out.trans (hB6.mono HB.out.size)).cell (World.block_lt_of_cell? _ _ HKC.out)).trans HKC.out
          rw [HKK.out] at hkc6
          have hlast := last_cell (HNp.out.later hB6) HX.out.pos
          have HB6 := Lib.hid (HB.out.trans (hB6.mono HB.out.size))
          obtain ⟨m, hm⟩ : ∃ m, x.length = m := ⟨_, rfl⟩
          have hm0 := HX.out.pos
          rw [hm] at hcell6 hlast hm0 ⊢
          obtain ⟨kd, hkd⟩ : ∃ k, (lastN x).kind = k := ⟨_, rfl⟩
          rw [hkd] at hlast
          have HKD := Lib.hid hkd
          have j0 : (0 : Int) ≤ (m : Int) - 1 := by omega
          have j1 : (m : Int) - 1 < (m : Int) := by omega
          have hml : m ≤ 1954687338260 := by have := HX.out.ok.len; omega
          have hwm : IntKind.i64.wrap ((m : Int) - 1) = (m : Int) - 1 := IntWalk.i64_in _ (by omega)
          clear q1 hcell hB6 hkd hm
          go_upto_region 15 with fail
          go_quiet (first | (go_at_call 18; exact Calls.quiet_of_same (arity_quiet _ _)))
          obtain ⟨ar, har⟩ : ∃ r, arI kd = r := ⟨_, rfl⟩
          simp only [har]
          have HAR := Lib.hid har
          clear har
          have zu : (bs u).size ≤ 10000000 := by rw [bs_len]; exact HX.out.len
          have zp : (bs []).size ≤ 20000000 := by rw [bs_len]; simp only [List.length_append, List.length_cons, List.length_nil]; omega
          by_cases hz : 0 < ar
          · have hXe : X = 40 :: (u ++ [41]) := by rw [← HXE.out]; unfold boxL; rw [HKD.out, HAR.out, if_pos hz]
            have HXe := Lib.hid hXe
            have n1 : ¬ 9223372036854775807 < 1 + (bs u).size := by omega
            have n2 : ¬ 9223372036854775807 < 1 + (bs u).size + 1 := by omega
            have n3 : ¬ 9223372036854775807 < (bs []).size + (1 + (bs u).size + 1) := by omega
            have n4 : ¬ 9223372036854775807 < (bs []).size + (1 + (bs u).size + 1) + 5 := by omega
            clear hXe zu zp
            go_wp2_with fail
            go_round
            case rel => exact ⟨0 + 1, by omega, by go_num, by rw [show wantU X [32, 97, 110, 100, 32] Y (0 + 1) = X ++ [32, 97, 110, 100, 32] from rfl]; exact congrArg Value.string (by rw [HXe.out]; simp only [c40, c41, cAnd, cOr, bs_append]; first | rfl | (congr 1; simp; done)), HB6.out.trans ((below_drewN _ _).mono HB6.out.size)⟩
            case measure => simp [intOf]
          · have hXe : X = u := by rw [← HXE.out]; unfold boxL; rw [HKD.out, HAR.out, if_neg hz]
            have HXe := Lib.hid hXe
            have n3 : ¬ 9223372036854775807 < (bs []).size + (bs u).size := by omega
            have n4 : ¬ 9223372036854775807 < (bs []).size + (bs u).size + 5 := by omega
            clear hXe zu zp
            go_wp2_with fail
            go_round
            case rel => exact ⟨0 + 1, by omega, by go_num, by rw [show wantU X [32, 97, 110, 100, 32] Y (0 + 1) = X ++ [32, 97, 110, 100, 32] from rfl]; exact congrArg Value.string (by rw [HXe.out]; simp only [c40, c41, cAnd, cOr, bs_append]; first | rfl | (congr 1; simp; done)), HB6.out.trans ((below_drewN _ _).mono HB6.out.size)⟩
            case measure => simp [intOf]
        by_cases hi1 : i = 1
        case pos =>
          subst hi1
          clear hi
          obtain ⟨gp, g2, cp, ePA, hcell, hNp⟩ := (HP5.out.later HB.out) 1 (by simp)
          cases ePA
          rw [show List.getD [x, y] 1 [] = y from rfl] at hcell hNp
          have HNp := Lib.hid hNp
          have HCP := Lib.hid hcell
          have hw0 : wantU X [32, 97, 110, 100, 32] Y 1 = (X ++ [32, 97, 110, 100, 32]) := rfl
          rw [hw0]
          clear hNp hw0
          go_upto_region 12 with fail
          go_wp2_with fail
          have q1 := full_any y (some ⟨g2, 0, none⟩) cp wr HNp.out HY.out.ok ((HT.out.later HB5.out).later HB.out) ((HD.out.later HB5.out).later HB.out)
          rw [HY.out.told] at q1
          refine q1.mono ?_
          rintro e w6 ⟨rfl, hB6⟩
          have hcell6 := (hB6.cell (World.block_lt_of_cell? _ _ HCP.out)).trans HCP.out
          have hkc6 := ((HB.out.trans (hB6.mono HB.out.size)).cell (World.block_lt_of_cell? _ _ HKC.out)).trans HKC.out
          rw [HKK.out] at hkc6
          have hlast := last_cell (HNp.out.later hB6) HY.out.pos
          have HB6 := Lib.hid (HB.out.trans (hB6.mono HB.out.size))
          obtain ⟨m, hm⟩ : ∃ m, y.length = m := ⟨_, rfl⟩
          have hm0 := HY.out.pos
          rw [hm] at hcell6 hlast hm0 ⊢
          obtain ⟨kd, hkd⟩ : ∃ k, (lastN y).kind = k := ⟨_, rfl⟩
          rw [hkd] at hlast
          have HKD := Lib.hid hkd
          have j0 : (0 : Int) ≤ (m : Int) - 1 := by omega
          have j1 : (m : Int) - 1 < (m : Int) := by omega
          have hml : m ≤ 1954687338260 := by have := HY.out.ok.len; omega
          have hwm : IntKind.i64.wrap ((m : Int) - 1) = (m : Int) - 1 := IntWalk.i64_in _ (by omega)
          clear q1 hcell hB6 hkd hm
          go_upto_region 15 with fail
          go_quiet (first | (go_at_call 18; exact Calls.quiet_of_same (arity_quiet _ _)))
          obtain ⟨ar, har⟩ : ∃ r, arI kd = r := ⟨_, rfl⟩
          simp only [har]
          have HAR := Lib.hid har
          clear har
          have zu : (bs v).size ≤ 10000000 := by rw [bs_len]; exact HY.out.len
          have zp : (bs (X ++ [32, 97, 110, 100, 32])).size ≤ 20000000 := by rw [bs_len]; simp only [List.length_append, List.length_cons, List.length_nil]; have := HXL.out; have := HUL.out; omega
          by_cases hz : 0 < ar
          · have hXe : Y = 40 :: (v ++ [41]) := by rw [← HYE.out]; unfold boxL; rw [HKD.out, HAR.out, if_pos hz]
            have HXe := Lib.hid hXe
            have n1 : ¬ 9223372036854775807 < 1 + (bs v).size := by omega
            have n2 : ¬ 9223372036854775807 < 1 + (bs v).size + 1 := by omega
            have n3 : ¬ 9223372036854775807 < (bs (X ++ [32, 97, 110, 100, 32])).size + (1 + (bs v).size + 1) := by omega
            have n4 : ¬ 9223372036854775807 < (bs (X ++ [32, 97, 110, 100, 32])).size + (1 + (bs v).size + 1) + 5 := by omega
            clear hXe zu zp
            go_wp2_with fail
            go_round
            case rel => exact ⟨1 + 1, by omega, by go_num, by rw [show wantU X [32, 97, 110, 100, 32] Y (1 + 1) = X ++ ([32, 97, 110, 100, 32] ++ Y) from rfl]; exact congrArg Value.string (by rw [HXe.out]; simp only [c40, c41, cAnd, cOr, bs_append]; first | rfl | (congr 1; simp; done)), HB6.out.trans ((below_drewN _ _).mono HB6.out.size)⟩
            case measure => simp [intOf]
          · have hXe : Y = v := by rw [← HYE.out]; unfold boxL; rw [HKD.out, HAR.out, if_neg hz]
            have HXe := Lib.hid hXe
            have n3 : ¬ 9223372036854775807 < (bs (X ++ [32, 97, 110, 100, 32])).size + (bs v).size := by omega
            have n4 : ¬ 9223372036854775807 < (bs (X ++ [32, 97, 110, 100, 32])).size + (bs v).size + 5 := by omega
            clear hXe zu zp
            go_wp2_with fail
            go_round
            case rel => exact ⟨1 + 1, by omega, by go_num, by rw [show wantU X [32, 97, 110, 100, 32] Y (1 + 1) = X ++ ([32, 97, 110, 100, 32] ++ Y) from rfl]; exact congrArg Value.string (by rw [HXe.out]; simp only [c40, c41, cAnd, cOr, bs_append]; first | rfl | (congr 1; simp; done)), HB6.out.trans ((below_drewN _ _).mono HB6.out.size)⟩
            case measure => simp [intOf]
        obtain rfl : i = 2 := by omega
        clear hi hi0 hi1
        have hw0 : wantU X [32, 97, 110, 100, 32] Y 2 = X ++ ([32, 97, 110, 100, 32] ++ Y) := by simp [wantU]
        rw [hw0]
        have hkc6 := (HB.out.cell (World.block_lt_of_cell? _ _ HKC.out)).trans HKC.out
        rw [HKK.out] at hkc6
        have zt : (bs (X ++ ([32, 97, 110, 100, 32] ++ Y))).size ≤ 50000000 := by rw [bs_len]; (try simp only [List.length_append, List.length_cons, List.length_nil]); have := HXL.out; have := HUL.out; have := HYL.out; have := HVL.out; omega
        have n5 : ¬ 9223372036854775807 < 4 + (bs (X ++ ([32, 97, 110, 100, 32] ++ Y))).size := by omega
        have htx : bs tx = bs (X ++ ([32, 97, 110, 100, 32] ++ Y)) := by rw [HTX.out]; skip
        have HBE := Lib.hid (HB5.out.trans (HB.out.mono HB5.out.size))
        clear hw0 zt
        go_wp2_with fail
        refine (HAW.out _ HBE.out).mono ?_
        rintro e w9 ⟨rfl, hB9⟩
        have HB9 := Lib.hid hB9
        clear hB9
        go_wp2_with fail
        go_ret
        exact ⟨rfl, HB9.out⟩
    · rw [k9] at hkc
      rw [k9] at htx
      rw [if_neg (by decide)] at htx
      have HKK := Lib.hid k9
      clear k9
      have HX := Lib.hid hx
      have HY := Lib.hid hy
      obtain ⟨X, hX⟩ : ∃ X, boxL (lastN x) u = X := ⟨_, rfl⟩
      have hXl := boxL_len (lastN x) u
      have hul := HX.out.len
      rw [hX] at htx hXl
      obtain ⟨Y, hY⟩ : ∃ Y, boxL (lastN y) v = Y := ⟨_, rfl⟩
      have hYl := boxL_len (lastN y) v
      have hvl := HY.out.len
      rw [hY] at htx hYl
      have HTX := Lib.hid htx
      have HXE := Lib.hid hX
      have HXL := Lib.hid hXl
      have HUL := Lib.hid hul
      have HYE := Lib.hid hY
      have HYL := Lib.hid hYl
      have HVL := Lib.hid hvl
      have hls : ls = [x, y] := Option.some.inj (HLS.out.symm.trans hpt)
      subst hls
      clear hpt hx htx hX hXl hul hy hY hYl hvl HLS HR
      go_wp2_with fail
      go_loopw [9, 7] (fun z y0 wr => ∃ i : Nat, i ≤ 2 ∧ z = .int .i64 i ∧ y0 = .string (bs (wantU X [32, 111, 114, 32] Y i)) ∧ Below (w4.alloc (.cells (enc root) 37)).heap.size (w4.alloc (.cells (enc root) 37)) wr) (fun z _ _ => 2 - (intOf z).toNat)
      case atStart => exact ⟨0, by omega, rfl, rfl, Below.refl _ _⟩
      case round =>
        obtain ⟨i, hi, rfl, rfl, hB⟩ := hrel
        have HB := Lib.hid hB
        clear hB
        by_cases hi0 : i = 0
        case pos =>
          subst hi0
          clear hi
          obtain ⟨gp, g2, cp, ePA, hcell, hNp⟩ := (HP5.out.later HB.out) 0 (by simp)
          cases ePA
          rw [show List.getD [x, y] 0 [] = x from rfl] at hcell hNp
          have HNp := Lib.hid hNp
          have HCP := Lib.hid hcell
          have hw0 : wantU X [32, 111, 114, 32] Y 0 = [] := rfl
          rw [hw0]
          clear hNp hw0
          go_upto_region 12 with fail
          go_wp2_with fail
          have q1 := full_any x (some ⟨g2, 0, none⟩) cp wr HNp.out HX.out.ok ((HT.out.later HB5.out).later HB.out) ((HD.out.later HB5.out).later HB.out)
          rw [HX.out.told] at q1
          refine q1.mono ?_
          rintro e w6 ⟨rfl, hB6⟩
          have hcell6 := (hB6.cell (World.block_lt_of_cell? _ _ HCP.out)).trans HCP.out
          have hkc6 := ((HB.out.trans (hB6.mono HB.out.size)).cell (World.block_lt_of_cell? _ _ HKC.out)).trans HKC.out
          rw [HKK.out] at hkc6
          have hlast := last_cell (HNp.out.later hB6) HX.out.pos
          have HB6 := Lib.hid (HB.out.trans (hB6.mono HB.out.size))
          obtain ⟨m, hm⟩ : ∃ m, x.length = m := ⟨_, rfl⟩
          have hm0 := HX.out.pos
          rw [hm] at hcell6 hlast hm0 ⊢
          obtain ⟨kd, hkd⟩ : ∃ k, (lastN x).kind = k := ⟨_, rfl⟩
          rw [hkd] at hlast
          have HKD := Lib.hid hkd
          have j0 : (0 : Int) ≤ (m : Int) - 1 := by omega
          have j1 : (m : Int) - 1 < (m : Int) := by omega
          have hml : m ≤ 1954687338260 := by have := HX.out.ok.len; omega
          have hwm : IntKind.i64.wrap ((m : Int) - 1) = (m : Int) - 1 := IntWalk.i64_in _ (by omega)
          clear q1 hcell hB6 hkd hm
          go_upto_region 15 with fail
          go_quiet (first | (go_at_call 18; exact Calls.quiet_of_same (arity_quiet _ _)))
          obtain ⟨ar, har⟩ : ∃ r, arI kd = r := ⟨_, rfl⟩
          simp only [har]
          have HAR := Lib.hid har
          clear har
          have zu : (bs u).size ≤ 10000000 := by rw [bs_len]; exact HX.out.len
          have zp : (bs []).size ≤ 20000000 := by rw [bs_len]; simp only [List.length_append, List.length_cons, List.length_nil]; omega
          by_cases hz : 0 < ar
          · have hXe : X = 40 :: (u ++ [41]) := by rw [← HXE.out]; unfold boxL; rw [HKD.out, HAR.out, if_pos hz]
            have HXe := Lib.hid hXe
            have n1 : ¬ 9223372036854775807 < 1 + (bs u).size := by omega
            have n2 : ¬ 9223372036854775807 < 1 + (bs u).size + 1 := by omega
            have n3 : ¬ 9223372036854775807 < (bs []).size + (1 + (bs u).size + 1) := by omega
            have n4 : ¬ 9223372036854775807 < (bs []).size + (1 + (bs u).size + 1) + 4 := by omega
            clear hXe zu zp
            go_wp2_with fail
            go_round
            case rel => exact ⟨0 + 1, by omega, by go_num, by rw [show wantU X [32, 111, 114, 32] Y (0 + 1) = X ++ [32, 111, 114, 32] from rfl]; exact congrArg Value.string (by rw [HXe.out]; simp only [c40, c41, cAnd, cOr, bs_append]; first | rfl | (congr 1; simp; done)), HB6.out.trans ((below_drewN _ _).mono HB6.out.size)⟩
            case measure => simp [intOf]
          · have hXe : X = u := by rw [← HXE.out]; unfold boxL; rw [HKD.out, HAR.out, if_neg hz]
            have HXe := Lib.hid hXe
            have n3 : ¬ 9223372036854775807 < (bs []).size + (bs u).size := by omega
            have n4 : ¬ 9223372036854775807 < (bs []).size + (bs u).size + 4 := by omega
            clear hXe zu zp
            go_wp2_with fail
            go_round
            case rel => exact ⟨0 + 1, by omega, by go_num, by rw [show wantU X [32, 111, 114, 32] Y (0 + 1) = X ++ [32, 111, 114, 32] from rfl]; exact congrArg Value.string (by rw [HXe.out]; simp only [c40, c41, cAnd, cOr, bs_append]; first | rfl | (congr 1; simp; done)), HB6.out.trans ((below_drewN _ _).mono HB6.out.size)⟩
            case measure => simp [intOf]
        by_cases hi1 : i = 1
        case pos =>
          subst hi1
          clear hi
          obtain ⟨gp, g2, cp, ePA, hcell, hNp⟩ := (HP5.out.later HB.out) 1 (by simp)
          cases ePA
          rw [show List.getD [x, y] 1 [] = y from rfl] at hcell hNp
          have HNp := Lib.hid hNp
          have HCP := Lib.hid hcell
          have hw0 : wantU X [32, 111, 114, 32] Y 1 = (X ++ [32, 111, 114, 32]) := rfl
          rw [hw0]
          clear hNp hw0
          go_upto_region 12 with fail
          go_wp2_with fail
          have q1 := full_any y (some ⟨g2, 0, none⟩) cp wr HNp.out HY.out.ok ((HT.out.later HB5.out).later HB.out) ((HD.out.later HB5.out).later HB.out)
          rw [HY.out.told] at q1
          refine q1.mono ?_
          rintro e w6 ⟨rfl, hB6⟩
          have hcell6 := (hB6.cell (World.block_lt_of_cell? _ _ HCP.out)).trans HCP.out
          have hkc6 := ((HB.out.trans (hB6.mono HB.out.size)).cell (World.block_lt_of_cell? _ _ HKC.out)).trans HKC.out
          rw [HKK.out] at hkc6
          have hlast := last_cell (HNp.out.later hB6) HY.out.pos
          have HB6 := Lib.hid (HB.out.trans (hB6.mono HB.out.size))
          obtain ⟨m, hm⟩ : ∃ m, y.length = m := ⟨_, rfl⟩
          have hm0 := HY.out.pos
          rw [hm] at hcell6 hlast hm0 ⊢
          obtain ⟨kd, hkd⟩ : ∃ k, (lastN y).kind = k := ⟨_, rfl⟩
          rw [hkd] at hlast
          have HKD := Lib.hid hkd
          have j0 : (0 : Int) ≤ (m : Int) - 1 := by omega
          have j1 : (m : Int) - 1 < (m : Int) := by omega
          have hml : m ≤ 1954687338260 := by have := HY.out.ok.len; omega
          have hwm : IntKind.i64.wrap ((m : Int) - 1) = (m : Int) - 1 := IntWalk.i64_in _ (by omega)
          clear q1 hcell hB6 hkd hm
          go_upto_region 15 with fail
          go_quiet (first | (go_at_call 18; exact Calls.quiet_of_same (arity_quiet _ _)))
          obtain ⟨ar, har⟩ : ∃ r, arI kd = r := ⟨_, rfl⟩
          simp only [har]
          have HAR := Lib.hid har
          clear har
          have zu : (bs v).size ≤ 10000000 := by rw [bs_len]; exact HY.out.len
          have zp : (bs (X ++ [32, 111, 114, 32])).size ≤ 20000000 := by rw [bs_len]; simp only [List.length_append, List.length_cons, List.length_nil]; have := HXL.out; have := HUL.out; omega
          by_cases hz : 0 < ar
          · have hXe : Y = 40 :: (v ++ [41]) := by rw [← HYE.out]; unfold boxL; rw [HKD.out, HAR.out, if_pos hz]
            have HXe := Lib.hid hXe
            have n1 : ¬ 9223372036854775807 < 1 + (bs v).size := by omega
            have n2 : ¬ 9223372036854775807 < 1 + (bs v).size + 1 := by omega
            have n3 : ¬ 9223372036854775807 < (bs (X ++ [32, 111, 114, 32])).size + (1 + (bs v).size + 1) := by omega
            have n4 : ¬ 9223372036854775807 < (bs (X ++ [32, 111, 114, 32])).size + (1 + (bs v).size + 1) + 4 := by omega
            clear hXe zu zp
            go_wp2_with fail
            go_round
            case rel => exact ⟨1 + 1, by omega, by go_num, by rw [show wantU X [32, 111, 114, 32] Y (1 + 1) = X ++ ([32, 111, 114, 32] ++ Y) from rfl]; exact congrArg Value.string (by rw [HXe.out]; simp only [c40, c41, cAnd, cOr, bs_append]; first | rfl | (congr 1; simp; done)), HB6.out.trans ((below_drewN _ _).mono HB6.out.size)⟩
            case measure => simp [intOf]
          · have hXe : Y = v := by rw [← HYE.out]; unfold boxL; rw [HKD.out, HAR.out, if_neg hz]
            have HXe := Lib.hid hXe
            have n3 : ¬ 9223372036854775807 < (bs (X ++ [32, 111, 114, 32])).size + (bs v).size := by omega
            have n4 : ¬ 9223372036854775807 < (bs (X ++ [32, 111, 114, 32])).size + (bs v).size + 4 := by omega
            clear hXe zu zp
            go_wp2_with fail
            go_round
            case rel => exact ⟨1 + 1, by omega, by go_num, by rw [show wantU X [32, 111, 114, 32] Y (1 + 1) = X ++ ([32, 111, 114, 32] ++ Y) from rfl]; exact congrArg Value.string (by rw [HXe.out]; simp only [c40, c41, cAnd, cOr, bs_append]; first | rfl | (congr 1; simp; done)), HB6.out.trans ((below_drewN _ _).mono HB6.out.size)⟩
            case measure => simp [intOf]
        obtain rfl : i = 2 := by omega
        clear hi hi0 hi1
        have hw0 : wantU X [32, 111, 114, 32] Y 2 = X ++ ([32, 111, 114, 32] ++ Y) := by simp [wantU]
        rw [hw0]
        have hkc6 := (HB.out.cell (World.block_lt_of_cell? _ _ HKC.out)).trans HKC.out
        rw [HKK.out] at hkc6
        have zt : (bs (X ++ ([32, 111, 114, 32] ++ Y))).size ≤ 50000000 := by rw [bs_len]; (try simp only [List.length_append, List.length_cons, List.length_nil]); have := HXL.out; have := HUL.out; have := HYL.out; have := HVL.out; omega
        have n5 : ¬ 9223372036854775807 < 4 + (bs (X ++ ([32, 111, 114, 32] ++ Y))).size := by omega
        have htx : bs tx = bs (X ++ ([32, 111, 114, 32] ++ Y)) := by rw [HTX.out]; skip
        have HBE := Lib.hid (HB5.out.trans (HB.out.mono HB5.out.size))
        clear hw0 zt
        go_wp2_with fail
        refine (HAW.out _ HBE.out).mono ?_
        rintro e w9 ⟨rfl, hB9⟩
        have HB9 := Lib.hid hB9
        clear hB9
        go_wp2_with fail
        go_ret
        exact ⟨rfl, HB9.out⟩
end Go.Proofs.YtffkaphbgfdpaaaGreatDoor
