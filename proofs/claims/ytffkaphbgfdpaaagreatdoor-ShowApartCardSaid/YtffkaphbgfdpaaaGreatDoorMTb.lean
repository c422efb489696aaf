/- TMade4, TNs, TSpec, TAdd, TNs2, TNs3, TThru, TChk, TChk2, TLawFirst, TTrees, TLawJoin, one behind the other. -/
import Derived.Test.YtffkaphbgfdpaaaGreatDoorMTa
import Derived.Deep.DeepCutAuto
import Derived.Deep.AppendLies
import Derived.Deep.MidRow
import Derived.Maps.Range
import Derived.Laws.EntriesVeiled
import Derived.Deep.CutBlock
import Derived.Deep.RegionLaw
import Derived.Laws.Closers25b
import Derived.Deep.RegionHeld3
import Derived.Great.BuildSlice
import Derived.Deep.DeepAppendRoom
import Derived.ArgAppend
section
namespace Go.Proofs.YtffkaphbgfdpaaaGreatDoor.T
open Go.RowKit
set_option linter.unusedVariables false
set_option maxRecDepth 100000
set_option linter.unusedSimpArgs false
/-- What lies in memory when the parts of an operation have been laid: the first at p, the second at q. -/
structure X4 (w : World) (b S p q : Nat) (n : Node) (truth xc : Bool) (xv : Int) (yc : Bool) (yv : Int) (V : World) : Prop where
  v0 : V.cell? ⟨S, 0, none⟩ = some (.bool truth)
  v1 : V.cell? ⟨S, 1, none⟩ = some (.bool false)
  v2 : V.cell? ⟨S, 2, none⟩ = some (.int .u32 0)
  y1 : V.cell? ⟨q, 1, none⟩ = some (.bool yc)
  y2 : V.cell? ⟨q, 2, none⟩ = some (.int .u32 yv)
  x1 : V.cell? ⟨p, 1, none⟩ = some (.bool xc)
  x2 : V.cell? ⟨p, 2, none⟩ = some (.int .u32 xv)
  m1 : V.cell? ⟨b, 1, none⟩ = some (.int .i64 n.op)
  k0 : V.cell? ⟨b + 1 + 1, 0, none⟩ = some (.bool false)
  k1 : V.cell? ⟨b + 1 + 1, 1, none⟩ = some (.bool false)
  k2 : V.cell? ⟨b + 1 + 1, 2, none⟩ = some (.int .u32 0)
  g1 : V.frozen? ⟨S, 1, none⟩ = false
  g2 : V.frozen? ⟨S, 2, none⟩ = false
  p0 : V.frozen? ⟨b + 1 + 1, 0, none⟩ = false
  p1 : V.frozen? ⟨b + 1 + 1, 1, none⟩ = false
  p2 : V.frozen? ⟨b + 1 + 1, 2, none⟩ = false
  out : V.heap[S]? = some (.cells #[.bool truth, .bool false, .int .u32 0] 63 (0, 0))
  res : V.heap[b + 1 + 1]? = some (.cells #[.bool false, .bool false, .int .u32 0] 63 (0, 0))
  below : Below b w V
  lt : b + 1 + 1 < S
theorem row3 {X : World} {B : Nat} {t : TypeId} {p q r : Value} (h : X.heap[B]? = some (.cells #[p, q, r] t (0, 0))) (a b c : Value) :
    (((X.setCell ⟨B, 0, none⟩ a).setCell ⟨B, 1, none⟩ b).setCell ⟨B, 2, none⟩ c).heap[B]? = some (.cells #[a, b, c] t (0, 0)) := by
  have h1 := heap_setCell_same X B 0 _ t a h
  have h2 := heap_setCell_same _ B 1 _ t b h1
  have h3 := heap_setCell_same _ B 2 _ t c h2
  exact h3
theorem made_results (tmps : Array Value) (W : World) (B : Nat) (x y z c : Value) (hp : tmps.getD 6 undef = .pointer (some ⟨B, 0, none⟩)) (hc : tmps.getD 7 undef = c)
    (h : W.heap[B]? = some (.cells #[x, y, z] 63 (0, 0))) : (results Tryz.f100 tmps).run Tryz.prog W = .ok (.tuple #[.agg #[x, y, z], c]) W := by
  have hl := run_loadVar_row (P := Tryz.prog) W B 63 63 #[x, y, z] (0, 0) _ h Tryz.underlying63 rfl (by kernel_rfl)
  have hr : Tryz.f100.results = #[.cell 6 63, .tmp 7] := rfl
  have hp' : tmps[6]?.getD undef = .pointer (some ⟨B, 0, none⟩) := by simpa using hp
  have hc' : tmps[7]?.getD undef = c := by simpa using hc
  simp [results, hr, hp', hc', asAddr, hl]
theorem v4_of {w wr : World} {b : Nat} {n : Node} {tr wants : Bool} {u f g : Value} (hM : MadeAt w b n tr wants u f g wr) (truth xt xc : Bool) (xv : Int) (yt yc : Bool) (yv : Int) :
    X4 w b wr.heap.size (wr.heap.size + 1 + 1) (wr.heap.size + 1) n truth xc xv yc yv (((wr.alloc (.cells #[.bool truth, .bool false, .int .u32 0] 63)).alloc (.cells #[.bool yt, .bool yc, .int .u32 yv] 63)).alloc (.cells #[.bool xt, .bool xc, .int .u32 xv] 63)).drew ∧
    X4 w b wr.heap.size (wr.heap.size + 1) (wr.heap.size + 1 + 1) n truth yc yv xc xv (((wr.alloc (.cells #[.bool truth, .bool false, .int .u32 0] 63)).alloc (.cells #[.bool yt, .bool yc, .int .u32 yv] 63)).alloc (.cells #[.bool xt, .bool xc, .int .u32 xv] 63)).drew := by
  have ks := hM.size
  have hb1 : Below wr.heap.size wr (((wr.alloc (.cells #[.bool truth, .bool false, .int .u32 0] 63)).alloc (.cells #[.bool yt, .bool yc, .int .u32 yv] 63)).alloc (.cells #[.bool xt, .bool xc, .int .u32 xv] 63)).drew :=
    ((((Below.refl _ wr).alloc (Nat.le_refl _) _).alloc (by simp) _).alloc (by simp; omega) _).drew
  have n1 : wr.cell? ⟨b, 1, none⟩ = some (.int .i64 n.op) := by
    have := nodeIn_of hM.node 1 _ rfl
    rwa [add_plain] at this
  have hR := hb1.block (b + 1 + 1) ks
  rw [hM.res] at hR
  have hS1 : wr.heap.size < wr.heap.size + 1 := by omega
  have hS2 : wr.heap.size < wr.heap.size + 1 + 1 := by omega
  have hS3 : wr.heap.size + 1 < wr.heap.size + 1 + 1 := by omega
  have hO : (((wr.alloc (.cells #[.bool truth, .bool false, .int .u32 0] 63)).alloc (.cells #[.bool yt, .bool yc, .int .u32 yv] 63)).alloc (.cells #[.bool xt, .bool xc, .int .u32 xv] 63)).drew.heap[wr.heap.size]? = some (.cells #[.bool truth, .bool false, .int .u32 0] 63 (0, 0)) := by
    show (((wr.alloc (.cells #[.bool truth, .bool false, .int .u32 0] 63)).alloc (.cells #[.bool yt, .bool yc, .int .u32 yv] 63)).alloc (.cells #[.bool xt, .bool xc, .int .u32 xv] 63)).heap[wr.heap.size]? = _
    rw [Below.heap_alloc _ _ _ (by simp; omega), Below.heap_alloc _ _ _ (by simp), heap_alloc_new]
  constructor
  all_goals
    refine ⟨cell_of_row _ _ 0 _ _ _ hO, cell_of_row _ _ 1 _ _ _ hO, cell_of_row _ _ 2 _ _ _ hO, ?_, ?_, ?_, ?_, (hb1.cell (p := ⟨b, 1, none⟩) (by show b < _; omega)).trans n1, cell_of_row _ _ 0 _ _ _ hR, cell_of_row _ _ 1 _ _ _ hR, cell_of_row _ _ 2 _ _ _ hR, frozen_of_row _ _ 1 _ _ hO, frozen_of_row _ _ 2 _ _ hO,
      frozen_of_row _ _ 0 _ _ hR, frozen_of_row _ _ 1 _ _ hR, frozen_of_row _ _ 2 _ _ hR, hO, hR, hM.below.trans (hb1.mono (by omega)), ks⟩
    all_goals simp [go_sem, hS1, hS2, hS3]
set_option maxHeartbeats 2000000 in
set_option maxRecDepth 100000 in
theorem made_4 (n : Node) (truth wants : Bool) (u f g : Value) (A : Option Addr) (c kb : Nat) (kids : List Part) (w : World) (hA : 0 < kids.length → A = some ⟨kb, 0, none⟩) (hk : KidsAt w kb kids) (hu : u.oneCell' = true) (hf : f.oneCell' = true) (hg : g.oneCell' = true)
    (hm : kids.length ≤ 2) (hku : ∀ p ∈ kids, isU32 p.value) (qk : n.kind = 4) (h5 : n.kind = 5 → 1 ≤ kids.length) (h4 : n.kind = 4 → 2 ≤ kids.length) :
    Calls Tryz.prog 100 #[.agg (enc n), .agg #[.bool truth, .bool wants, u, f, g], .slice A kids.length c] w fun e w' =>
      e = .returned (.tuple #[.agg #[.bool (madeL n truth wants kids).1.truth, .bool (madeL n truth wants kids).1.constant, .int .u32 (madeL n truth wants kids).1.value], .int .i64 (madeL n truth wants kids).2]) ∧ Below w.heap.size w w' := by
  have M0 := made_start w n truth wants u f g
  obtain ⟨b, hb⟩ : ∃ b, w.heap.size = b := ⟨_, rfl⟩
  have HM := Lib.hid M0
  clear M0
  go_enter Tryz.func100, Tryz.ntmps100
  go_wp2
  go_loopw [15] (fun x wr => ∃ i : Nat, i ≤ kids.length ∧ x = .int .i64 i ∧ kidsBad wants (kids.take i) = false ∧ MadeAt w b n truth wants u f g wr ∧ KidsAt wr kb kids) (fun x _ => kids.length - (intOf x).toNat)
  case atStart => exact ⟨0, by omega, rfl, rfl, hb ▸ HM.out, hk.later (hb ▸ HM.out.below)⟩
  case round =>
    obtain ⟨i, hi, rfl, hbad, hM, hK⟩ := hrel
    by_cases hlt : i < kids.length
    · obtain rfl := hA (by omega)
      have hkb := kidsBad_take (wants := wants) hlt
      rw [hbad] at hkb
      have hko := fun h => kidsBad_of (wants := wants) hlt h
      obtain ⟨p, hp⟩ : ∃ p, kids.getD i Part.zero = p := ⟨_, rfl⟩
      have c0 := hK i hlt 0 _ rfl
      have c1 := hK i hlt 1 _ rfl
      have c2 := hK i hlt 2 _ rfl
      rw [hp, Nat.add_zero] at c0
      rw [hp] at c1 c2 hkb hko
      have r1 := hM.row1
      have r1s := World.block_lt_of_cell? wr _ r1
      have k0 : wr.cell? ⟨b + 1 + 1, 0, none⟩ = some (.bool false) := cell_of_row wr _ 0 _ _ _ hM.res
      have k1 : wr.cell? ⟨b + 1 + 1, 1, none⟩ = some (.bool false) := cell_of_row wr _ 1 _ _ _ hM.res
      have k2 : wr.cell? ⟨b + 1 + 1, 2, none⟩ = some (.int .u32 0) := cell_of_row wr _ 2 _ _ _ hM.res
      have f0 := frozen_of_row wr (b + 1 + 1) 0 _ _ hM.res
      have f1 := frozen_of_row wr (b + 1 + 1) 1 _ _ hM.res
      have f2 := frozen_of_row wr (b + 1 + 1) 2 _ _ hM.res
      have ks : b + 1 + 1 < wr.heap.size := hM.size
      have HM2 := Lib.hid hM
      have HK2 := Lib.hid hK
      have Hkb := Lib.hid hkb
      have Hko := Lib.hid hko
      have Hb := Lib.hid hb
      clear hM hK hp hbad hkb hko HM hk hA h4 h5 hb
      obtain ⟨pt, pc, pv⟩ := p
      cases wants
      case false =>
        cases pt
        case false =>
          go_wp2
          go_roundw
          case rel => exact ⟨i + 1, by omega, by go_num, by rw [Hkb.out]; rfl, HM2.out.later ((Below.refl _ _).alloc (Nat.le_refl _) _), HK2.out.later ((Below.refl _ _).alloc (Nat.le_refl _) _)⟩
          case measure => simp [intOf]; omega
        case true =>
          have hres : Hid (madeL n truth false kids = (Part.zero, 122)) := by
            show _ = _
            rw [madeL, if_pos (Hko.out (by simp))]
            rfl
          go_wp2
          refine bodyPost_ret (v := .tuple #[.agg #[.bool false, .bool false, .int .u32 0], .int .i64 122]) (by simp [results, Tryz.results100, go_sem, *]) rfl ⟨by rw [hres.out]; rfl, ?_⟩
          have hB := HM2.out.below
          rw [Hb.out]
          repeat (first | exact hB | refine Below.setCell ?_ ?_ _ | refine Below.drew ?_ | refine Below.alloc ?_ ?_ _)
          all_goals first | omega | (simp; omega)
      case true =>
        cases pt
        case true =>
          go_wp2
          go_roundw
          case rel => exact ⟨i + 1, by omega, by go_num, by rw [Hkb.out]; rfl, HM2.out.later ((Below.refl _ _).alloc (Nat.le_refl _) _), HK2.out.later ((Below.refl _ _).alloc (Nat.le_refl _) _)⟩
          case measure => simp [intOf]; omega
        case false =>
          have hres : Hid (madeL n truth true kids = (Part.zero, 121)) := by
            show _ = _
            rw [madeL, if_pos (Hko.out (by simp))]
            rfl
          go_wp2
          refine bodyPost_ret (v := .tuple #[.agg #[.bool false, .bool false, .int .u32 0], .int .i64 121]) (by simp [results, Tryz.results100, go_sem, *]) rfl ⟨by rw [hres.out]; rfl, ?_⟩
          have hB := HM2.out.below
          rw [Hb.out]
          repeat (first | exact hB | refine Below.setCell ?_ ?_ _ | refine Below.drew ?_ | refine Below.alloc ?_ ?_ _)
          all_goals first | omega | (simp; omega)
    · have hin : i = kids.length := by omega
      have hall : kidsBad wants kids = false := by rw [hin, List.take_of_length_le (Nat.le_refl _)] at hbad; exact hbad
      have n0 := hM.kind
      have n0s := World.block_lt_of_cell? wr _ n0
      have nN := hM.node
      have r0 := hM.row0
      have r0s := World.block_lt_of_cell? wr _ r0
      have k0 : wr.cell? ⟨b + 1 + 1, 0, none⟩ = some (.bool false) := cell_of_row wr _ 0 _ _ _ hM.res
      have k1 : wr.cell? ⟨b + 1 + 1, 1, none⟩ = some (.bool false) := cell_of_row wr _ 1 _ _ _ hM.res
      have k2 : wr.cell? ⟨b + 1 + 1, 2, none⟩ = some (.int .u32 0) := cell_of_row wr _ 2 _ _ _ hM.res
      have f0 := frozen_of_row wr (b + 1 + 1) 0 _ _ hM.res
      have f1 := frozen_of_row wr (b + 1 + 1) 1 _ _ hM.res
      have f2 := frozen_of_row wr (b + 1 + 1) 2 _ _ hM.res
      have ks : b + 1 + 1 < wr.heap.size := hM.size
      have HM2 := Lib.hid hM
      have Hb := Lib.hid hb
      have Hall := Lib.hid hall
      have q4 : n.kind = 4 := qk
      have q1 : ¬ n.kind = 1 := by omega
      have qb1 : (n.kind == 1) = false := by simp; omega
      have q5 : ¬ n.kind = 5 := by omega
      have qb5 : (n.kind == 5) = false := by simp; omega
      have hl2 := h4 q4
      obtain rfl := hA (by omega)
      obtain ⟨⟨xt, xc, xv⟩, hx⟩ : ∃ p, kids.getD 0 Part.zero = p := ⟨_, rfl⟩
      obtain ⟨⟨yt, yc, yv⟩, hy⟩ : ∃ p, kids.getD 1 Part.zero = p := ⟨_, rfl⟩
      have c0 : wr.cell? ⟨kb, 0, none⟩ = some (.bool xt) := hK 0 (by omega) 0 _ (by rw [hx]; rfl)
      have c1 : wr.cell? ⟨kb, 1, none⟩ = some (.bool xc) := hK 0 (by omega) 1 _ (by rw [hx]; rfl)
      have c2 : wr.cell? ⟨kb, 2, none⟩ = some (.int .u32 xv) := hK 0 (by omega) 2 _ (by rw [hx]; rfl)
      have d0 : wr.cell? ⟨kb, 3, none⟩ = some (.bool yt) := hK 1 (by omega) 0 _ (by rw [hy]; rfl)
      have d1 : wr.cell? ⟨kb, 4, none⟩ = some (.bool yc) := hK 1 (by omega) 1 _ (by rw [hy]; rfl)
      have d2_ : wr.cell? ⟨kb, 5, none⟩ = some (.int .u32 yv) := hK 1 (by omega) 2 _ (by rw [hy]; rfl)
      have ux : isU32 xv := by
        have := hku (kids[0]'(by omega)) (List.getElem_mem _)
        rwa [show kids[0]'(by omega) = ⟨xt, xc, xv⟩ from by rw [← hx]; simp [List.getD_eq_getElem?_getD, List.getElem?_eq_getElem (show 0 < kids.length by omega)]] at this
      have uy : isU32 yv := by
        have := hku (kids[1]'(by omega)) (List.getElem_mem _)
        rwa [show kids[1]'(by omega) = ⟨yt, yc, yv⟩ from by rw [← hy]; simp [List.getD_eq_getElem?_getD, List.getElem?_eq_getElem (show 1 < kids.length by omega)]] at this
      have HX := Lib.hid ux
      have HY := Lib.hid uy
      have cs : kb < wr.heap.size := World.block_lt_of_cell? wr _ c1
      have z01 : kb < wr.heap.size + 1 := by omega
      have z02 : kb < wr.heap.size + 1 + 1 := by omega
      have z03 : kb < wr.heap.size + 1 + 1 + 1 := by omega
      have z11 : b < wr.heap.size + 1 := by omega
      have z12 : b < wr.heap.size + 1 + 1 := by omega
      have z13 : b < wr.heap.size + 1 + 1 + 1 := by omega
      have z21 : b + 1 < wr.heap.size + 1 := by omega
      have z22 : b + 1 < wr.heap.size + 1 + 1 := by omega
      have z23 : b + 1 < wr.heap.size + 1 + 1 + 1 := by omega
      have z31 : b + 1 + 1 < wr.heap.size + 1 := by omega
      have z32 : b + 1 + 1 < wr.heap.size + 1 + 1 := by omega
      have z33 : b + 1 + 1 < wr.heap.size + 1 + 1 + 1 := by omega
      have qb : (n.kind == 4) = true := by simpa using q4
      have l0 : 0 < kids.length := by omega
      have l1 : 1 < kids.length := by omega
      have l2 : (1 : Int) < (kids.length : Int) := by omega
      have n1 : wr.cell? ⟨b, 1, none⟩ = some (.int .i64 n.op) := by
        have := nodeIn_of nN 1 _ rfl
        rwa [add_plain] at this
      have hmade : madeL n truth wants kids = if (n.op = 4 ∨ n.op = 5) ∧ yc = true ∧ yv = 0 then (⟨truth, false, 0⟩, 123) else if xc = true ∧ yc = true then (⟨truth, true, reckon n.op xv yv⟩, 0) else (⟨truth, false, 0⟩, 0) := by
        rw [madeL, Hall.out, if_neg (by simp), if_neg q1, if_neg q5, if_pos q4, hx, hy]
      have Hmade := Lib.hid hmade
      clear hM hK hbad HM hk h4 h5 hb hall hin q1 q5 q4 hx hy hku ux uy hmade
      have FA := v4_of HM2.out truth yt yc yv xt xc xv
      have FB := v4_of HM2.out truth xt xc xv yt yc yv
      have HFA := Lib.hid FA.right
      have HFB := Lib.hid FB.left
      clear HM2 FA FB
      go_upto_region 16 with fail
      go_cut [11, 12] (fun s11 s12 W => ∃ (p q : Nat), s11 = .pointer (some ⟨p, 0, none⟩) ∧ s12 = .pointer (some ⟨q, 0, none⟩) ∧ X4 w b wr.heap.size p q n truth xc xv yc yv W)
      case first =>
        go_region
        · go_wp2_with fail
          go_meet
          exact ⟨_, _, rfl, rfl, HFA.out⟩
        · go_wp2_with fail
          go_meet
          exact ⟨_, _, rfl, rfl, HFB.out⟩
      case rest =>
        obtain ⟨p, q, rfl, rfl, F⟩ := hcut
        generalize wr.heap.size = S at F ks ⊢
        obtain ⟨v0, v1, v2, y1, y2, x1, x2, m1, w0_, w1_, w2_, g1, g2, p0, p1, p2, out, hrs, HB, hbS⟩ := F
        have vs : S < wc.heap.size := World.block_lt_of_cell? wc _ v0
        have vr : b + 1 + 1 < wc.heap.size := World.block_lt_of_cell? wc _ w0_
        have HVB := Lib.hid HB
        have HRS := Lib.hid hrs
        have HO := Lib.hid out
        clear hrs HB out HFA HFB c0 c1 c2 d0 d1 d2_ k0 k1 k2 f0 f1 f2 nN r0 n1 n0 cs z01 z02 z03 z11 z12 z13 z21 z22 z23 z31 z32 z33 r0s n0s l0 l1 l2 ks
        by_cases o4 : n.op = 4
        case pos =>
          have ob : (n.op == 4) = true := by simpa using o4
          cases yc
          case false =>
            have hres : Hid (madeL n truth wants kids = (⟨truth, false, 0⟩, 0)) := by
              show _ = _
              rw [Hmade.out]
              simp [o4]
            clear o4
            cases xc
            all_goals
              go_wp2_with fail
              refine bodyPost_ret (v := .tuple #[.agg #[.bool truth, .bool false, .int .u32 0], .int .i64 0]) (made_results _ _ _ _ _ _ _ rfl rfl (row3 HRS.out _ _ _)) rfl ⟨by rw [hres.out], ?_⟩
              rw [Hb.out]
              exact ((HVB.out.setCell (by simp; omega) _).setCell (by simp; omega) _).setCell (by simp; omega) _
          by_cases yz : yv = 0
          case pos =>
            have yb : (yv == 0) = true := by simpa using yz
            have hres : Hid (madeL n truth wants kids = (⟨truth, false, 0⟩, 123)) := by
              show _ = _
              rw [Hmade.out]
              simp [o4, yz]
            clear o4 yz
            go_wp2_with fail
            refine bodyPost_ret (v := .tuple #[.agg #[.bool truth, .bool false, .int .u32 0], .int .i64 123]) (made_results _ _ _ _ _ _ _ rfl rfl (row3 HRS.out _ _ _)) rfl ⟨by rw [hres.out], ?_⟩
            rw [Hb.out]
            exact ((HVB.out.setCell (by simp; omega) _).setCell (by simp; omega) _).setCell (by simp; omega) _
          have yb : (yv == 0) = false := by simpa using yz
          cases xc
          case false =>
            have hres : Hid (madeL n truth wants kids = (⟨truth, false, 0⟩, 0)) := by
              show _ = _
              rw [Hmade.out]
              simp [o4, yz]
            clear o4 yz
            go_wp2_with fail
            refine bodyPost_ret (v := .tuple #[.agg #[.bool truth, .bool false, .int .u32 0], .int .i64 0]) (made_results _ _ _ _ _ _ _ rfl rfl (row3 HRS.out _ _ _)) rfl ⟨by rw [hres.out], ?_⟩
            rw [Hb.out]
            exact ((HVB.out.setCell (by simp; omega) _).setCell (by simp; omega) _).setCell (by simp; omega) _
          have hres : Hid (madeL n truth wants kids = (⟨truth, true, reckon n.op xv yv⟩, 0)) := by
            show _ = _
            rw [Hmade.out]
            simp [o4, yz]
          have Hz := Lib.hid (show n.op = 4 ∨ n.op = 5 → yv ≠ 0 from fun _ => yz)
          clear o4 yz
          go_wp2_with fail
          refine (reckon_any _ _ _ HX.out HY.out Hz.out _).mono ?_
          rintro e w2 ⟨rfl, rfl⟩
          go_wp2_with fail
          refine bodyPost_ret (v := .tuple #[.agg #[.bool truth, .bool true, .int .u32 (reckon n.op xv yv)], .int .i64 0]) (made_results _ _ _ _ _ _ _ rfl rfl (row3 ((heap_setCell_other _ _ _ _ (by simp; omega)).trans ((heap_setCell_other _ _ _ _ (by simp; omega)).trans HRS.out)) _ _ _)) rfl ⟨by rw [hres.out], ?_⟩
          rw [Hb.out]
          exact (((((HVB.out.setCell (by simp; omega) _).setCell (by simp; omega) _)).setCell (by simp; omega) _).setCell (by simp; omega) _).setCell (by simp; omega) _
        have ob4 : (n.op == 4) = false := by simpa using o4
        by_cases o5 : n.op = 5
        case pos =>
          have ob : (n.op == 5) = true := by simpa using o5
          cases yc
          case false =>
            have hres : Hid (madeL n truth wants kids = (⟨truth, false, 0⟩, 0)) := by
              show _ = _
              rw [Hmade.out]
              simp [o5]
            clear o4 o5
            cases xc
            all_goals
              go_wp2_with fail
              refine bodyPost_ret (v := .tuple #[.agg #[.bool truth, .bool false, .int .u32 0], .int .i64 0]) (made_results _ _ _ _ _ _ _ rfl rfl (row3 HRS.out _ _ _)) rfl ⟨by rw [hres.out], ?_⟩
              rw [Hb.out]
              exact ((HVB.out.setCell (by simp; omega) _).setCell (by simp; omega) _).setCell (by simp; omega) _
          by_cases yz : yv = 0
          case pos =>
            have yb : (yv == 0) = true := by simpa using yz
            have hres : Hid (madeL n truth wants kids = (⟨truth, false, 0⟩, 123)) := by
              show _ = _
              rw [Hmade.out]
              simp [o5, yz]
            clear o4 o5 yz
            go_wp2_with fail
            refine bodyPost_ret (v := .tuple #[.agg #[.bool truth, .bool false, .int .u32 0], .int .i64 123]) (made_results _ _ _ _ _ _ _ rfl rfl (row3 HRS.out _ _ _)) rfl ⟨by rw [hres.out], ?_⟩
            rw [Hb.out]
            exact ((HVB.out.setCell (by simp; omega) _).setCell (by simp; omega) _).setCell (by simp; omega) _
          have yb : (yv == 0) = false := by simpa using yz
          cases xc
          case false =>
            have hres : Hid (madeL n truth wants kids = (⟨truth, false, 0⟩, 0)) := by
              show _ = _
              rw [Hmade.out]
              simp [o5, yz]
            clear o4 o5 yz
            go_wp2_with fail
            refine bodyPost_ret (v := .tuple #[.agg #[.bool truth, .bool false, .int .u32 0], .int .i64 0]) (made_results _ _ _ _ _ _ _ rfl rfl (row3 HRS.out _ _ _)) rfl ⟨by rw [hres.out], ?_⟩
            rw [Hb.out]
            exact ((HVB.out.setCell (by simp; omega) _).setCell (by simp; omega) _).setCell (by simp; omega) _
          have hres : Hid (madeL n truth wants kids = (⟨truth, true, reckon n.op xv yv⟩, 0)) := by
            show _ = _
            rw [Hmade.out]
            simp [o5, yz]
          have Hz := Lib.hid (show n.op = 4 ∨ n.op = 5 → yv ≠ 0 from fun _ => yz)
          clear o4 o5 yz
          go_wp2_with fail
          refine (reckon_any _ _ _ HX.out HY.out Hz.out _).mono ?_
          rintro e w2 ⟨rfl, rfl⟩
          go_wp2_with fail
          refine bodyPost_ret (v := .tuple #[.agg #[.bool truth, .bool true, .int .u32 (reckon n.op xv yv)], .int .i64 0]) (made_results _ _ _ _ _ _ _ rfl rfl (row3 ((heap_setCell_other _ _ _ _ (by simp; omega)).trans ((heap_setCell_other _ _ _ _ (by simp; omega)).trans HRS.out)) _ _ _)) rfl ⟨by rw [hres.out], ?_⟩
          rw [Hb.out]
          exact (((((HVB.out.setCell (by simp; omega) _).setCell (by simp; omega) _)).setCell (by simp; omega) _).setCell (by simp; omega) _).setCell (by simp; omega) _
        have ob5 : (n.op == 5) = false := by simpa using o5
        cases yc
        case false =>
          have hres : Hid (madeL n truth wants kids = (⟨truth, false, 0⟩, 0)) := by
            show _ = _
            rw [Hmade.out]
            simp [o4, o5]
          clear o4 o5
          cases xc
          all_goals
            go_wp2_with fail
            refine bodyPost_ret (v := .tuple #[.agg #[.bool truth, .bool false, .int .u32 0], .int .i64 0]) (made_results _ _ _ _ _ _ _ rfl rfl (row3 HRS.out _ _ _)) rfl ⟨by rw [hres.out], ?_⟩
            rw [Hb.out]
            exact ((HVB.out.setCell (by simp; omega) _).setCell (by simp; omega) _).setCell (by simp; omega) _
        cases xc
        case false =>
          have hres : Hid (madeL n truth wants kids = (⟨truth, false, 0⟩, 0)) := by
            show _ = _
            rw [Hmade.out]
            simp [o4, o5]
          clear o4 o5
          go_wp2_with fail
          refine bodyPost_ret (v := .tuple #[.agg #[.bool truth, .bool false, .int .u32 0], .int .i64 0]) (made_results _ _ _ _ _ _ _ rfl rfl (row3 HRS.out _ _ _)) rfl ⟨by rw [hres.out], ?_⟩
          rw [Hb.out]
          exact ((HVB.out.setCell (by simp; omega) _).setCell (by simp; omega) _).setCell (by simp; omega) _
        have hres : Hid (madeL n truth wants kids = (⟨truth, true, reckon n.op xv yv⟩, 0)) := by
          show _ = _
          rw [Hmade.out]
          simp [o4, o5]
        have Hz := Lib.hid (show n.op = 4 ∨ n.op = 5 → yv ≠ 0 from fun h => by omega)
        clear o4 o5
        go_wp2_with fail
        refine (reckon_any _ _ _ HX.out HY.out Hz.out _).mono ?_
        rintro e w2 ⟨rfl, rfl⟩
        go_wp2_with fail
        refine bodyPost_ret (v := .tuple #[.agg #[.bool truth, .bool true, .int .u32 (reckon n.op xv yv)], .int .i64 0]) (made_results _ _ _ _ _ _ _ rfl rfl (row3 ((heap_setCell_other _ _ _ _ (by simp; omega)).trans ((heap_setCell_other _ _ _ _ (by simp; omega)).trans HRS.out)) _ _ _)) rfl ⟨by rw [hres.out], ?_⟩
        rw [Hb.out]
        exact (((((HVB.out.setCell (by simp; omega) _).setCell (by simp; omega) _)).setCell (by simp; omega) _).setCell (by simp; omega) _).setCell (by simp; omega) _

theorem made_any (n : Node) (truth wants : Bool) (u f g : Value) (A : Option Addr) (c kb : Nat) (kids : List Part) (w : World) (hA : 0 < kids.length → A = some ⟨kb, 0, none⟩) (hk : KidsAt w kb kids) (hu : u.oneCell' = true) (hf : f.oneCell' = true) (hg : g.oneCell' = true)
    (hm : kids.length ≤ 2) (hku : ∀ p ∈ kids, isU32 p.value) (h5 : n.kind = 5 → 1 ≤ kids.length) (h4 : n.kind = 4 → 2 ≤ kids.length) :
    Calls Tryz.prog 100 #[.agg (enc n), .agg #[.bool truth, .bool wants, u, f, g], .slice A kids.length c] w fun e w' =>
      e = .returned (.tuple #[.agg #[.bool (madeL n truth wants kids).1.truth, .bool (madeL n truth wants kids).1.constant, .int .u32 (madeL n truth wants kids).1.value], .int .i64 (madeL n truth wants kids).2]) ∧ Below w.heap.size w w' := by
  by_cases q4 : n.kind = 4
  · exact made_4 n truth wants u f g A c kb kids w hA hk hu hf hg hm hku q4 h5 h4
  by_cases q1 : n.kind = 1
  · cases wants
    · exact made_false_1 n truth u f g A c kb kids w hA hk hu hf hg hm hku q1 h5 h4
    · exact made_true_1 n truth u f g A c kb kids w hA hk hu hf hg hm hku q1 h5 h4
  by_cases q5 : n.kind = 5
  · cases wants
    · exact made_false_5 n truth u f g A c kb kids w hA hk hu hf hg hm hku q5 h5 h4
    · exact made_true_5 n truth u f g A c kb kids w hA hk hu hf hg hm hku q5 h5 h4
  · cases wants
    · exact made_false_n n truth u f g A c kb kids w hA hk hu hf hg hm hku ⟨q1, q5, q4⟩ h5 h4
    · exact made_true_n n truth u f g A c kb kids w hA hk hu hf hg hm hku ⟨q1, q5, q4⟩ h5 h4
end Go.Proofs.YtffkaphbgfdpaaaGreatDoor.T
end

section
/- Slices of nodes, and what package riddlelaw0 does with them: copied, lent, looked at again, spoilt. -/
namespace Go.Proofs.YtffkaphbgfdpaaaGreatDoor.T
open Go.RowKit Go.Shelf
set_option linter.unusedVariables false
set_option maxRecDepth 100000
set_option linter.unusedSimpArgs false

/-- A slice of nodes: the nodes lie in a row. -/
def Ns (w : World) (A : Option Addr) (ns : List Node) : Prop := 0 < ns.length → ∃ b o, A = some ⟨b, o, none⟩ ∧ ∀ i, i < ns.length → nodeAt w ⟨b, o + i * 24, none⟩ = some (ns.getD i Node.zero)
theorem Ns.later {w W : World} {A : Option Addr} {ns : List Node} (h : Ns w A ns) (hb : Below w.heap.size w W) : Ns W A ns := by
  intro hp
  obtain ⟨b, o, e, hn⟩ := h hp
  exact ⟨b, o, e, fun i hi => nodeAt_later hb (hn i hi)⟩
theorem Ns.nil {w : World} {A : Option Addr} : Ns w A [] := fun h => by cases h
def flat (ns : List Node) : List Value := ns.flatMap encL
theorem flat_length (ns : List Node) : (flat ns).length = ns.length * 24 := by
  unfold flat
  induction ns with
  | nil => rfl
  | cons n ns ih => rw [List.flatMap_cons, List.length_append, ih, List.length_cons, encL_length]; omega
theorem flat_cons (n : Node) (ns : List Node) : flat (n :: ns) = encL n ++ flat ns := rfl
theorem flat_append (a b : List Node) : flat (a ++ b) = flat a ++ flat b := List.flatMap_append
theorem flat_get {ns : List Node} {i j : Nat} {u : Value} (hi : i < ns.length) (hu : (encL (ns.getD i Node.zero))[j]? = some u) : (flat ns)[i * 24 + j]? = some u := by
  have hj : j < 24 := by
    have := (List.getElem?_eq_some_iff.1 hu).1
    rwa [encL_length] at this
  induction ns generalizing i with
  | nil => cases hi
  | cons n ns ih =>
    rw [flat_cons]
    cases i with
    | zero =>
      rw [List.getElem?_append_left (by rw [encL_length]; omega)]
      simpa using hu
    | succ i =>
      rw [List.getElem?_append_right (by rw [encL_length]; omega)]
      have e : (i + 1) * 24 + j - (encL n).length = i * 24 + j := by rw [encL_length]; omega
      rw [e]
      exact ih (by simpa using hi) (by simpa using hu)
theorem flat_split {ns : List Node} {k : Nat} {u : Value} (h : (flat ns)[k]? = some u) : ∃ i j, k = i * 24 + j ∧ i < ns.length ∧ (encL (ns.getD i Node.zero))[j]? = some u := by
  have hk := (List.getElem?_eq_some_iff.1 h).1
  rw [flat_length] at hk
  have hi : k / 24 < ns.length := by omega
  have hj : k % 24 < (encL (ns.getD (k / 24) Node.zero)).length := by rw [encL_length]; omega
  refine ⟨k / 24, k % 24, by omega, hi, ?_⟩
  have := flat_get hi (List.getElem?_eq_getElem hj)
  rw [show k / 24 * 24 + k % 24 = k from by omega, h] at this
  rw [List.getElem?_eq_getElem hj]
  exact this.symm
theorem encL_one (n : Node) : ∀ v ∈ encL n, v.oneCell' = true := by
  intro v hv
  have := enc_oneCell n
  exact (Array.all_eq_true_iff_forall_mem.1 this) v (by simpa [enc] using hv)
theorem flat_one (ns : List Node) : ∀ v ∈ flat ns, v.oneCell' = true := by
  intro v hv
  obtain ⟨n, _, h⟩ := List.mem_flatMap.1 hv
  exact encL_one n v h
/-- The cells of a slice of nodes. -/
theorem Ns.cells {w : World} {A : Option Addr} {ns : List Node} (h : Ns w A ns) (hp : 0 < ns.length) : ∃ b o, A = some ⟨b, o, none⟩ ∧ ∀ k u, (flat ns)[k]? = some u → w.cell? ((⟨b, o, none⟩ : Addr).add k) = some u := by
  obtain ⟨b, o, e, hn⟩ := h hp
  refine ⟨b, o, e, fun k u hu => ?_⟩
  obtain ⟨i, j, rfl, hi, hj⟩ := flat_split hu
  have := nodeIn_of (hn i hi) j u hj
  rw [add_plain] at this ⊢
  rwa [show o + (i * 24 + j) = o + i * 24 + j from by omega]
def OwnN (w : World) (base : Nat) (v : Value) (ns : List Node) : Prop := w.ownsRow base 37 24 v ns.length (flat ns)
theorem own_later {w W : World} {base sz n : Nat} {e : TypeId} {v : Value} {xs : List Value} (h : w.ownsRow base e sz v n xs) (hb : ∀ b, v.ownBlock = some b → W.heap[b]? = w.heap[b]?) : W.ownsRow base e sz v n xs := by
  refine ⟨h.1, ?_⟩
  rcases h.2 with h | ⟨g, cap, cur, rfl, h1, h2, h3⟩
  · exact .inl h
  · exact .inr ⟨g, cap, cur, rfl, h1, (hb g rfl).trans h2, h3⟩
theorem own_lt {w : World} {base sz n : Nat} {e : TypeId} {v : Value} {xs : List Value} (h : w.ownsRow base e sz v n xs) {b : Nat} (hb : v.ownBlock = some b) : base ≤ b ∧ b < w.heap.size := by
  rcases h.2 with ⟨rfl, h⟩ | ⟨g, cap, cur, rfl, h1, h2, h3⟩
  · cases hb
  · cases hb
    exact ⟨h1, (Array.getElem?_eq_some_iff.1 h2).1⟩
theorem OwnN.ns {w : World} {base : Nat} {v : Value} {ns : List Node} (h : OwnN w base v ns) : ∃ A c, v = .slice A ns.length c ∧ Ns w A ns := by
  have h0 := h
  rcases h.2 with ⟨rfl, e⟩ | ⟨g, cap, cur, rfl, hb, hh, _⟩
  · exact ⟨none, 0, by rw [e], fun hp => by omega⟩
  · refine ⟨_, _, rfl, fun hp => ⟨g, 0, rfl, fun i hi => nodeAt_of fun j u hu => ?_⟩⟩
    have := World.ownsRow.cells h0 (g := g) rfl (i * 24 + j) _ (flat_get hi hu)
    rw [add_plain] at this ⊢
    rwa [show 0 + i * 24 + j = 0 + (i * 24 + j) from by omega]
theorem getD_mem {ns : List Node} {i : Nat} (hi : i < ns.length) : ns.getD i Node.zero ∈ ns := by
  rw [List.getD_eq_getElem?_getD, List.getElem?_eq_getElem hi]
  exact List.getElem_mem hi
theorem nodeInfos : (Tryz.prog.info? 37).map (fun i => (i.zero, i.size, i.bytes)) = some (some (.agg (enc Node.zero)), 24, 72) := by kernel_rfl
theorem run_append_empty {P : Program} (w : World) (t ty e : TypeId) (i : TypeInfo) (ht : P.underlying t = some (.slice e)) (hi : P.info? e = some i) (b o n cap c : Nat) (A : Option Addr) (hn : n ≤ cap) (hA : A = none → c = 0) :
    (Builtin.append_ #[t, t] ty #[.slice (some ⟨b, o, none⟩) n cap, .slice A 0 c]).run P w = .ok (.slice (some ⟨b, o, none⟩) n cap) w := by
  cases A with
  | none => simp [Builtin.append_, run_underlying ht, sizeOf, typeInfo, hi, Builtin.lenOf, Builtin.firstCells, loadCells, loadCellsFrom, storeCells, hn]
  | some a => simp [Builtin.append_, run_underlying ht, sizeOf, typeInfo, hi, Builtin.lenOf, Builtin.firstCells, loadCells, loadCellsFrom, storeCells, hn]
theorem wpList_append_empty {P : Program} {ops : Array Oper} {rest : List Oper} {o : Oper} {a : Act} {Q : Exit → Act → World → Prop} (w : World) (hgd : o.guard = none) (s x : Operand) (t : TypeId)
    (ho : o.op = .call { callee := .builtin .append, args := #[s, x], argTypes := #[t, t] }) (e : TypeId) (i : TypeInfo) (ht : P.underlying t = some (.slice e)) (hi : P.info? e = some i) (b p n cap c : Nat) (A : Option Addr)
    (hs : a.eval s = .slice (some ⟨b, p, none⟩) n cap) (hx : a.eval x = .slice A 0 c) (hn : n ≤ cap) (hA : A = none → c = 0)
    (h : wpList P ops Q rest (a.put o.dst (.slice (some ⟨b, p, none⟩) n cap)) w) : wpList P ops Q (o :: rest) a w :=
  wpList_plain hgd fun _ hK => by
    have hr := run_append_empty (P := P) w t o.type e i ht hi b p n cap c A hn hA
    unfold Oper.wp execOp
    simp only [ho, resolve, invoke, builtin, Sem.run_bind, Sem.run_pure, Result.andThen_ok, List.map_toArray, List.map_cons, List.map_nil, hs, hx, hr]
    exact hK _ _ h
theorem copy_any (A : Option Addr) (c : Nat) (ns : List Node) (w : World) (hA : Ns w A ns) (hl : ns.length ≤ 1954687338260) (hnil : A = none → c = 0) :
    Calls Tryz.prog 15 #[.slice A ns.length c] w fun e w' => ∃ g c2, e = .returned (.slice (some ⟨g, 0, none⟩) ns.length c2) ∧ OwnN w' w.heap.size (.slice (some ⟨g, 0, none⟩) ns.length c2) ns ∧ Below w.heap.size w w' := by
  obtain ⟨i0, hi0, hz0, hz1, hz2⟩ := info_parts nodeInfos
  have Hz0 := Lib.hid hz0
  have Hz1 := Lib.hid hz1
  have Hz2 := Lib.hid hz2
  clear hz0 hz1 hz2
  have hB1 : Below w.heap.size w (w.alloc (.cells #[] 37)) := (Below.refl _ w).alloc (Nat.le_refl _) _
  have hown0 : (w.alloc (.cells #[] 37)).ownsRow w.heap.size 37 24 (.slice (some ⟨w.heap.size, 0, none⟩) 0 0) 0 [] := ⟨rfl, .inr ⟨w.heap.size, 0, #[], rfl, Nat.le_refl _, heap_alloc_new w _, Nat.le_refl _, Nat.zero_le _, rfl, rfl⟩⟩
  by_cases hp : 0 < ns.length
  · obtain ⟨b, o, rfl, hc⟩ := (hA.later hB1).cells hp
    have HC := Lib.hid hc
    have HO := Lib.hid hown0
    have HB := Lib.hid hB1
    clear hc hown0 hB1 hA
    go_enter Tryz.func15, Tryz.ntmps15
    go_wp2_with (at_builtin; refine wpList_append_lies _ rfl _ _ 22 rfl w.heap.size 37 i0 (.agg (enc Node.zero)) 24 72 Tryz.underlying22 hi0 Hz0.out Hz1.out Hz2.out rfl (by decide) (.slice (some ⟨w.heap.size, 0, none⟩) 0 0) 0 [] rfl HO.out ⟨b, o, none⟩ ns.length c (flat ns) rfl (flat_length ns) HC.out (flat_one ns) hp (by simp only [maxLen]; omega) (by omega) (by simp) (w.heap.size + 1) (by simp) ?_; intro g cap w2 hown hgrow hat hlt)
    go_ret
    rw [Nat.zero_add, List.nil_append] at hown
    exact ⟨g, cap, rfl, hown, HB.out.grown hgrow (by simp) (fun k e => by cases e; exact Nat.le_refl _)⟩
  · have he : ns = [] := by simpa using hp
    subst he
    have HO := Lib.hid hown0
    have HB := Lib.hid hB1
    clear hown0 hB1 hA
    go_enter Tryz.func15, Tryz.ntmps15
    go_wp2_with (at_builtin; refine wpList_append_empty _ rfl _ _ 22 rfl 37 i0 Tryz.underlying22 hi0 w.heap.size 0 0 0 c A rfl rfl (Nat.le_refl _) hnil ?_)
    go_ret
    exact ⟨_, _, rfl, HO.out, HB.out⟩

end Go.Proofs.YtffkaphbgfdpaaaGreatDoor.T
end

section
/- What (*types.walk).add makes of a list, in plain Lean; what lies where while it goes on. -/
namespace Go.Proofs.YtffkaphbgfdpaaaGreatDoor.T
open Go.RowKit Go.Shelf
set_option linter.unusedVariables false
set_option maxRecDepth 100000
set_option linter.unusedSimpArgs false

/-- The table lies in block r and in those behind it, ahead of hi. -/
structure TabAt (r hi : Nat) (w : World) : Prop where
  out : ∃ es : List (Int × Value), MapRow w r es ∧ es.map (·.1) = (List.range 16).map (fun i : Nat => ((i : Int) + 1)) ∧ (∀ p ∈ es, RowOk (r + 1) hi w p)
  lt : r < hi
  size : hi ≤ w.heap.size
theorem TabAt.agree {r hi : Nat} {w W : World} (h : TabAt r hi w) (hb : AgreeOn r hi w W) : TabAt r hi W := by
  obtain ⟨es, h1, h2, h3⟩ := h.out
  exact ⟨⟨es, h1.congr (hb.block r (Nat.le_refl _) h.lt), h2, fun p hp => (h3 p hp).later (hb.narrow (Nat.le_succ r) (Nat.le_refl _)) (Nat.le_refl _) (Nat.le_refl _)⟩, h.lt, hb.size⟩
theorem TabAt.below {r hi kb : Nat} {w W : World} (h : TabAt r hi w) (hb : Below kb w W) (hk : hi ≤ kb) : TabAt r hi W := h.agree (AgreeOn.below hb hk h.size)
theorem lookE_mem {es : List (Int × Value)} {k : Int} {v : Value} (h : lookE es k = some v) : (k, v) ∈ es := by
  induction es with
  | nil => simp [lookE] at h
  | cons p es ih =>
    simp only [lookE] at h
    split at h
    · rename_i hk
      cases h
      subst hk
      exact List.mem_cons_self
    · exact List.mem_cons_of_mem _ (ih h)
theorem lookE_some {es : List (Int × Value)} (h : es.map (·.1) = (List.range 16).map (fun i : Nat => ((i : Int) + 1))) {k : Int} (h0 : 1 ≤ k) (h1 : k ≤ 16) : ∃ v, lookE es k = some v := by
  have hm : k ∈ es.map (·.1) := by
    rw [h]
    refine List.mem_map.2 ⟨(k - 1).toNat, List.mem_range.2 (by omega), by omega⟩
  clear h h0 h1
  induction es with
  | nil => simp at hm
  | cons p es ih =>
    by_cases hk : k = p.1
    · exact ⟨p.2, by simp [lookE, hk]⟩
    · obtain ⟨v, hv⟩ := ih (by simpa [hk] using hm)
      exact ⟨v, by simp [lookE, hk, hv]⟩
theorem lookE_none {es : List (Int × Value)} (h : es.map (·.1) = (List.range 16).map (fun i : Nat => ((i : Int) + 1))) {k : Int} (hk : k < 1 ∨ 16 < k) : lookE es k = none := by
  have hne : ∀ p ∈ es, k ≠ p.1 := by
    intro p hp e
    have : p.1 ∈ es.map (·.1) := List.mem_map_of_mem hp
    rw [h] at this
    obtain ⟨i, hi, e2⟩ := List.mem_map.1 this
    have := List.mem_range.1 hi
    omega
  clear h hk
  induction es with
  | nil => rfl
  | cons p es ih =>
    simp only [lookE]
    rw [if_neg (hne p List.mem_cons_self)]
    exact ih fun q hq => hne q (List.mem_cons_of_mem _ hq)
/-- A look-up in the table, of a kind that is none. -/
theorem TabAt.look_none {r hi : Nat} {w : World} (h : TabAt r hi w) {k : Int} (hk : k < 1 ∨ 16 < k) (z : Value) (hz : ∀ w, (zeroValue 70).run Tryz.prog w = .ok z w) :
    (Instr.lookup 64 (.map (some r)) (.int .i64 k) true).run Tryz.prog w = .ok (.tuple #[z, .bool false]) w := by
  obtain ⟨es, h1, h2, h3⟩ := h.out
  have := run_lookup_int (P := Tryz.prog) w _ _ _ Tryz.underlying64 Tryz.underlying3 z hz r es h1 k true
  rw [lookE_none h2 hk] at this
  simpa using this
/-- .., of a kind. -/
theorem TabAt.look_some {r hi : Nat} {w : World} (h : TabAt r hi w) {k : Int} (h0 : 1 ≤ k) (h1 : k ≤ 16) (z : Value) (hz : ∀ w, (zeroValue 70).run Tryz.prog w = .ok z w) (b : Bool) :
    ∃ u f g, RowOk (r + 1) hi w (k, .agg #[.bool (truthK k), .bool (wantsK k), u, f, g]) ∧
    (Instr.lookup 64 (.map (some r)) (.int .i64 k) b).run Tryz.prog w = .ok (if b then .tuple #[.agg #[.bool (truthK k), .bool (wantsK k), u, f, g], .bool true] else .agg #[.bool (truthK k), .bool (wantsK k), u, f, g]) w := by
  obtain ⟨es, e1, e2, e3⟩ := h.out
  obtain ⟨v, hv⟩ := lookE_some e2 h0 h1
  have := run_lookup_int (P := Tryz.prog) w _ _ _ Tryz.underlying64 Tryz.underlying3 z hz r es e1 k b
  rw [hv] at this
  have hm := e3 _ (lookE_mem hv)
  obtain ⟨u, f, g, he, q⟩ := hm.out
  simp only at he
  subst he
  exact ⟨u, f, g, hm, this⟩

theorem one_any (v : Value) (base : Nat) (st : List Int) (w : World) (hv : OwnI w base v st) (hn : st.length ≤ 4611686018427387904) :
    Calls Tryz.prog 48 #[v] w fun e w' => e = .returned (.bool (decide (0 < st.length ∧ st.getD (st.length - 1) 0 = 0))) ∧ w = w' := by
  obtain ⟨A, c, rfl, hA⟩ := hv.form
  by_cases hp : 0 < st.length
  · obtain ⟨g, rfl, hg, hc⟩ := hA hp
    have hcell := hc (st.length - 1) (by omega)
    rw [List.getD_eq_getElem?_getD] at hcell
    have hp1 : (0 : Int) ≤ (st.length : Int) - 1 := by omega
    have hp2 : (st.length : Int) - 1 < (st.length : Int) := by omega
    have HV := Lib.hid hv
    clear hA hc hv
    go_enter Tryz.func48, Tryz.ntmps48
    go_wp2
    go_ret
    refine ⟨?_, rfl⟩
    rw [List.getD_eq_getElem?_getD]
    simp [hp]
    rfl
  · have he : st = [] := by simpa using hp
    subst he
    clear hA hv
    go_enter Tryz.func48, Tryz.ntmps48
    go_wp2
    go_ret
    exact ⟨rfl, rfl⟩

theorem Part.enc1 (p : Part) : ∀ u ∈ partL p, u.oneCell' = true := by
  intro u hu
  simp only [partL, List.mem_cons, List.not_mem_nil, or_false] at hu
  rcases hu with rfl | rfl | rfl <;> rfl
def kidsL (a : Nat) (st : List Int) (ps : List Part) : List Part :=
  if a = 1 then [ps.getD (st.length - 1) Part.zero]
  else if a = 2 then [ps.getD (st.getD (st.length - 1) 0 - 1).toNat Part.zero, ps.getD (st.length - 1) Part.zero] else []
theorem getD_u32 {ps : List Part} (h : ∀ p ∈ ps, isU32 p.value) (i : Nat) : isU32 (ps.getD i Part.zero).value := by
  rw [List.getD_eq_getElem?_getD]
  cases hg : ps[i]? with
  | none => exact ⟨by decide, by decide⟩
  | some p => exact h p (List.mem_of_getElem? hg)
theorem kids_u32 {a : Nat} {st : List Int} {ps : List Part} (h : ∀ p ∈ ps, isU32 p.value) : ∀ p ∈ kidsL a st ps, isU32 p.value := by
  intro p hp
  unfold kidsL at hp
  split at hp
  · rw [List.mem_singleton] at hp
    subst hp
    exact getD_u32 h _
  · split at hp
    · simp only [List.mem_cons, List.not_mem_nil, or_false] at hp
      rcases hp with rfl | rfl <;> exact getD_u32 h _
    · cases hp
theorem reckon_u32 {op x y : Int} (hx : isU32 x) (hy : isU32 y) : isU32 (reckon op x y) := by
  have hb : ∀ o, isU32 (Go.bits o .u32 x y) := fun o => ⟨bits_lo_u32 o x y, bits_hi_u32 o x y⟩
  obtain ⟨hx0, hx1⟩ := hx
  obtain ⟨hy0, hy1⟩ := hy
  have hdiv : ∀ d : Int, 0 ≤ d → isU32 (x / d) := fun d hd => by
    rcases Int.lt_or_eq_of_le hd with h | h
    · exact ⟨Int.ediv_nonneg hx0 hd, Int.le_trans (Int.ediv_le_self _ hx0) hx1⟩
    · rw [← h, Int.ediv_zero]; exact ⟨by omega, by omega⟩
  unfold reckon
  repeat' split
  all_goals first
    | exact hb _
    | exact hdiv _ hy0
    | exact hdiv _ (Int.pow_nonneg (by omega))
    | (refine ⟨Int.emod_nonneg _ (by omega), ?_⟩; have := Int.emod_lt_of_pos (by assumption) (show (0 : Int) < 4294967296 by omega); omega)
    | skip
  all_goals first
    | (refine ⟨Int.emod_nonneg _ (by decide), ?_⟩; exact Int.le_of_lt_add_one (Int.emod_lt_of_pos _ (by decide)))
    | (rcases Int.lt_or_eq_of_le hy0 with h | h
       · exact ⟨Int.emod_nonneg _ (by omega), by have := Int.emod_lt_of_pos x h; omega⟩
       · rw [← h, Int.emod_zero]; exact ⟨hx0, hx1⟩)
theorem made_u32 {n : Node} {t w : Bool} {kids : List Part} (hk : ∀ p ∈ kids, isU32 p.value) (hn : isU32 n.n) : isU32 (madeL n t w kids).1.value := by
  have h0 : isU32 0 := ⟨by decide, by decide⟩
  unfold madeL
  repeat' split
  all_goals first
    | exact hn
    | exact h0
    | exact reckon_u32 (getD_u32 hk _) (getD_u32 hk _)
    | exact ⟨Int.emod_nonneg _ (by decide), Int.le_of_lt_add_one (Int.emod_lt_of_pos _ (by decide))⟩
/-- One node more: an error, or where the trees begin now, and the trees. -/
def stepT (n : Node) (st : List Int) (ps : List Part) : Int × List Int × List Part :=
  match arityK n.kind with
  | none => (120, st, ps)
  | some a => match addL st a with
    | none => (120, st, ps)
    | some st2 =>
      if unusedB n.kind n = false then (120, st, ps)
      else if (madeL n (truthK n.kind) (wantsK n.kind) (kidsL a st ps)).2 ≠ 0 then ((madeL n (truthK n.kind) (wantsK n.kind) (kidsL a st ps)).2, st, ps)
      else if fitsB n.kind n = false then (124, st, ps)
      else if n.kind = 15 ∧ wholeB n = false then (125, st, ps)
      else (0, st2, ps ++ [(madeL n (truthK n.kind) (wantsK n.kind) (kidsL a st ps)).1])
def OwnP (w : World) (base : Nat) (v : Value) (ps : List Part) : Prop := w.ownsRow base 63 3 v ps.length (ps.flatMap partL)
/-- The walk's own row, with what it holds. -/
structure WalkRow (r kb : Nat) (vs vp : Value) (st : List Int) (ps : List Part) (w : World) : Prop where
  row : w.heap[kb]? = some (.cells #[.map (some r), vs, vp] 67 (0, 0))
  st : OwnI w (kb + 1) vs st
  ps : OwnP w (kb + 1) vp ps
  apart : ∀ b, vs.ownBlock = some b → vp.ownBlock ≠ some b
structure WalkAt (r hi kb : Nat) (st : List Int) (ps : List Part) (w : World) : Prop where
  tab : TabAt r hi w
  le : hi ≤ kb
  row : ∃ vs vp, WalkRow r kb vs vp st ps w
  starts : StartsOk st
  len : ps.length = st.length
  u32 : ∀ p ∈ ps, isU32 p.value
theorem arityK_none {k : Int} (h : arityK k = none) : k < 1 ∨ 16 < k := by
  by_cases h0 : k < 1
  · exact .inl h0
  · by_cases h1 : 16 < k
    · exact .inr h1
    · exfalso
      have : k = 1 ∨ k = 2 ∨ k = 3 ∨ k = 4 ∨ k = 5 ∨ k = 6 ∨ k = 7 ∨ k = 8 ∨ k = 9 ∨ k = 10 ∨ k = 11 ∨ k = 12 ∨ k = 13 ∨ k = 14 ∨ k = 15 ∨ k = 16 := by omega
      rcases this with rfl | rfl | rfl | rfl | rfl | rfl | rfl | rfl | rfl | rfl | rfl | rfl | rfl | rfl | rfl | rfl <;> simp [arityK] at h
/-- Behind the look-up: the node and the row found lie in blocks of their own. -/
structure AtRow (w : World) (B p : Nat) (n : Node) (t wa : Bool) (u f g : Value) (W : World) : Prop where
  node : W.heap[B]? = some (.cells (enc n) 37 (0, 0))
  row : W.heap[p]? = some (.cells #[.bool t, .bool wa, u, f, g] 70 (0, 0))
  lt : B < p
  below : Below B w W
theorem look_start {w : World} {kb r : Nat} {n : Node} {res : Value} (c0 : w.cell? ⟨kb, 0, none⟩ = some (.map (some r))) (hL : ∀ W, Below w.heap.size w W → (Instr.lookup 64 (.map (some r)) (.int .i64 n.kind) true).run Tryz.prog W = .ok res W) :
    (w.alloc (.cells (enc n) 37)).drew.cell? ⟨kb, 0, none⟩ = some (.map (some r)) ∧ Below w.heap.size w (w.alloc (.cells (enc n) 37)).drew ∧ (w.alloc (.cells (enc n) 37)).drew.heap[w.heap.size]? = some (.cells (enc n) 37 (0, 0)) ∧ (w.alloc (.cells (enc n) 37)).drew.cell? ⟨w.heap.size, 0, none⟩ = some (.int .i64 n.kind) ∧
      w.heap.size < (w.alloc (.cells (enc n) 37)).drew.heap.size ∧ (Instr.lookup 64 (.map (some r)) (.int .i64 n.kind) true).run Tryz.prog (w.alloc (.cells (enc n) 37)).drew = .ok res (w.alloc (.cells (enc n) 37)).drew := by
  have hb : Below w.heap.size w (w.alloc (.cells (enc n) 37)).drew := ((Below.refl _ w).alloc (Nat.le_refl _) _).drew
  have hn : (w.alloc (.cells (enc n) 37)).drew.heap[w.heap.size]? = some (.cells (enc n) 37 (0, 0)) := heap_alloc_new w _
  exact ⟨(hb.cell (World.block_lt_of_cell? w _ c0)).trans c0, hb, hn, by rw [cell_of_row _ _ 0 _ _ _ hn]; rfl, by show w.heap.size < (w.alloc _).heap.size; simp, hL _ hb⟩
theorem Below.ofDrew {B : Nat} {a b : World} (h : Below B a b) : Below B a.drew b := ⟨h.os, h.tape, h.output, h.size, h.block⟩
theorem below_put (W : World) (o : Obj) : Below W.drew.heap.size W.drew (W.alloc o).drew := Below.ofDrew ((Below.alloc (Below.refl W.heap.size W) (Nat.le_refl _) o).drew)
theorem look_later {w V V' : World} {kb r : Nat} {n : Node} {res : Value} (hL : ∀ W, Below w.heap.size w W → (Instr.lookup 64 (.map (some r)) (.int .i64 n.kind) true).run Tryz.prog W = .ok res W)
    (h : V.cell? ⟨kb, 0, none⟩ = some (.map (some r)) ∧ Below w.heap.size w V ∧ V.heap[w.heap.size]? = some (.cells (enc n) 37 (0, 0)) ∧ V.cell? ⟨w.heap.size, 0, none⟩ = some (.int .i64 n.kind) ∧ w.heap.size < V.heap.size ∧ (Instr.lookup 64 (.map (some r)) (.int .i64 n.kind) true).run Tryz.prog V = .ok res V)
    (hb : Below V.heap.size V V') :
    V'.cell? ⟨kb, 0, none⟩ = some (.map (some r)) ∧ Below w.heap.size w V' ∧ V'.heap[w.heap.size]? = some (.cells (enc n) 37 (0, 0)) ∧ V'.cell? ⟨w.heap.size, 0, none⟩ = some (.int .i64 n.kind) ∧ w.heap.size < V'.heap.size ∧ (Instr.lookup 64 (.map (some r)) (.int .i64 n.kind) true).run Tryz.prog V' = .ok res V' := by
  obtain ⟨h1, h2, h3, h4, h5, h6⟩ := h
  have h7 : Below w.heap.size w V' := h2.trans (hb.mono (Nat.le_of_lt h5))
  exact ⟨(hb.cell (World.block_lt_of_cell? V _ h1)).trans h1, h7, (hb.block _ h5).trans h3, (hb.cell (by simpa using h5)).trans h4, Nat.lt_of_lt_of_le h5 hb.size, hL _ h7⟩
theorem atRow_new {w : World} {n : Node} {t wa : Bool} {u f g : Value} : AtRow w w.heap.size (w.heap.size + 1) n t wa u f g ((w.alloc (.cells (enc n) 37)).alloc (.cells #[.bool t, .bool wa, u, f, g] 70)).drew := by
  refine ⟨?_, ?_, by omega, (((Below.refl _ w).alloc (Nat.le_refl _) _).alloc (by simp) _).drew⟩
  · exact (Below.heap_alloc (w.alloc (.cells (enc n) 37)) _ w.heap.size (by simp)).trans (heap_alloc_new w _)
  · have := heap_alloc_new (w.alloc (.cells (enc n) 37)) (.cells #[.bool t, .bool wa, u, f, g] 70)
    rw [show (w.alloc (.cells (enc n) 37)).heap.size = w.heap.size + 1 from by simp] at this
    exact this
theorem ownP_form {w : World} {base : Nat} {v : Value} {ps : List Part} (h : OwnP w base v ps) : ∃ A c, v = .slice A ps.length c ∧ (0 < ps.length → ∃ g, A = some ⟨g, 0, none⟩ ∧ base ≤ g ∧ ∀ i, i < ps.length → ∀ j u, (partL (ps.getD i Part.zero))[j]? = some u → w.cell? ⟨g, i * 3 + j, none⟩ = some u) := by
  have h0 := h
  rcases h.2 with ⟨rfl, e⟩ | ⟨g, cap, cur, rfl, hb, hh, _⟩
  · exact ⟨none, 0, by rw [e], fun hp => by omega⟩
  · refine ⟨_, _, rfl, fun hp => ⟨g, rfl, hb, fun i hi j u hu => ?_⟩⟩
    have hj : j < 3 := by
      have := (List.getElem?_eq_some_iff.1 hu).1
      simpa [partL] using this
    have hget : (ps.flatMap partL)[i * 3 + j]? = some u := by
      clear h0 h hh
      rename_i hrest
      clear hrest
      induction ps generalizing i with
      | nil => cases hi
      | cons p ps ih =>
        rw [List.flatMap_cons]
        cases i with
        | zero =>
          rw [List.getElem?_append_left (by simp [partL]; omega)]
          simpa using hu
        | succ i =>
          rw [List.getElem?_append_right (by simp [partL]; omega)]
          have e : (i + 1) * 3 + j - (partL p).length = i * 3 + j := by simp [partL]; omega
          rw [e]
          by_cases hp : 0 < ps.length
          · exact ih hp i (by simpa using hi) (by simpa using hu)
          · simp at hi; omega
    have := World.ownsRow.cells h0 (g := g) rfl (i * 3 + j) _ hget
    rwa [show (⟨g, 0, none⟩ : Addr).add (i * 3 + j) = ⟨g, i * 3 + j, none⟩ from by unfold Addr.add; split <;> simp_all] at this
theorem keep5 {w3 W W' : World} {a b c d e : Addr} {va vb vc vd ve : Value} (h : W.cell? a = some va ∧ W.cell? b = some vb ∧ W.cell? c = some vc ∧ W.cell? d = some vd ∧ W.cell? e = some ve ∧ Below w3.heap.size w3 W) (hb : Below W.heap.size W W') :
    W'.cell? a = some va ∧ W'.cell? b = some vb ∧ W'.cell? c = some vc ∧ W'.cell? d = some vd ∧ W'.cell? e = some ve ∧ Below w3.heap.size w3 W' := by
  obtain ⟨h1, h2, h3, h4, h5, h6⟩ := h
  have k : ∀ {x : Addr} {v : Value}, W.cell? x = some v → W'.cell? x = some v := fun q => (hb.cell (World.block_lt_of_cell? W _ q)).trans q
  exact ⟨k h1, k h2, k h3, k h4, k h5, h6.trans (hb.mono h6.size)⟩
theorem keep8 {w3 W W' : World} {a b c d e f g i : Addr} {va vb vc vd ve vf vg vi : Value} (h : W.cell? a = some va ∧ W.cell? b = some vb ∧ W.cell? c = some vc ∧ W.cell? d = some vd ∧ W.cell? e = some ve ∧ W.cell? f = some vf ∧ W.cell? g = some vg ∧ W.cell? i = some vi ∧ Below w3.heap.size w3 W) (hb : Below W.heap.size W W') :
    W'.cell? a = some va ∧ W'.cell? b = some vb ∧ W'.cell? c = some vc ∧ W'.cell? d = some vd ∧ W'.cell? e = some ve ∧ W'.cell? f = some vf ∧ W'.cell? g = some vg ∧ W'.cell? i = some vi ∧ Below w3.heap.size w3 W' := by
  obtain ⟨h1, h2, h3, h4, h5, h6, h7, h8, h9⟩ := h
  have k : ∀ {x : Addr} {v : Value}, W.cell? x = some v → W'.cell? x = some v := fun q => (hb.cell (World.block_lt_of_cell? W _ q)).trans q
  exact ⟨k h1, k h2, k h3, k h4, k h5, k h6, k h7, k h8, h9.trans (hb.mono h9.size)⟩
theorem last9 {a b c d e f g h i : Prop} (H : a ∧ b ∧ c ∧ d ∧ e ∧ f ∧ g ∧ h ∧ i) : i := H.2.2.2.2.2.2.2.2
theorem kids_new1 (w : World) (P : Part) : KidsAt (w.alloc (.cells #[.bool P.truth, .bool P.constant, .int .u32 P.value] 63)).drew w.heap.size [P] := by
  intro i hi j u hu
  have hi : i = 0 := by simpa using hi
  subst hi
  have hh : (w.alloc (.cells #[.bool P.truth, .bool P.constant, .int .u32 P.value] 63)).drew.heap[w.heap.size]? = some (.cells #[.bool P.truth, .bool P.constant, .int .u32 P.value] 63 (0, 0)) := heap_alloc_new w _
  rw [cell_of_row _ _ _ _ _ _ hh]
  simpa [partL] using hu
theorem kids_new2 (w : World) (P Q : Part) : KidsAt (w.alloc (.cells #[.bool P.truth, .bool P.constant, .int .u32 P.value, .bool Q.truth, .bool Q.constant, .int .u32 Q.value] 63)).drew w.heap.size [P, Q] := by
  intro i hi j u hu
  have hj : j < 3 := by
    have := (List.getElem?_eq_some_iff.1 hu).1
    simpa [partL] using this
  have hh : (w.alloc (.cells #[.bool P.truth, .bool P.constant, .int .u32 P.value, .bool Q.truth, .bool Q.constant, .int .u32 Q.value] 63)).drew.heap[w.heap.size]? = some (.cells #[.bool P.truth, .bool P.constant, .int .u32 P.value, .bool Q.truth, .bool Q.constant, .int .u32 Q.value] 63 (0, 0)) := heap_alloc_new w _
  rw [cell_of_row _ _ _ _ _ _ hh]
  have hi : i < 2 := by simpa using hi
  have hi : i = 0 ∨ i = 1 := by omega
  have hj : j = 0 ∨ j = 1 ∨ j = 2 := by omega
  rcases hi with rfl | rfl <;> rcases hj with rfl | rfl | rfl <;> simpa [partL] using hu
/-- What is known in the middle of 'add'. -/
structure Mid (r hi kb N p : Nat) (n : Node) (t wa : Bool) (u f g : Value) (st : List Int) (ps : List Part) (vs vp : Value) (w W : World) : Prop where
  wr : WalkRow r kb vs vp st ps W
  node : W.heap[N]? = some (.cells (enc n) 37 (0, 0))
  row : W.heap[p]? = some (.cells #[.bool t, .bool wa, u, f, g] 70 (0, 0))
  below : Below kb w W
  kN : kb < N
  Np : N < p
  olds : ∀ b, vs.ownBlock = some b → b ≠ N ∧ b ≠ p
  oldp : ∀ b, vp.ownBlock = some b → b ≠ N ∧ b ≠ p
theorem Mid.start {r hi kb p : Nat} {n : Node} {t wa : Bool} {u f g : Value} {st : List Int} {ps : List Part} {vs vp : Value} {w W : World} (h : WalkRow r kb vs vp st ps w) (F : AtRow w w.heap.size p n t wa u f g W) : Mid r hi kb w.heap.size p n t wa u f g st ps vs vp w W := by
  have hk := (Array.getElem?_eq_some_iff.1 h.row).1
  refine ⟨⟨(F.below.block _ hk).trans h.row, own_later h.st fun b hb => F.below.block _ (own_lt h.st hb).2, own_later h.ps fun b hb => F.below.block _ (own_lt h.ps hb).2, h.apart⟩, F.node, F.row, F.below.mono (Nat.le_of_lt hk), hk, F.lt, ?_, ?_⟩
  · intro b hb
    have := (own_lt h.st hb).2
    have := F.lt
    omega
  · intro b hb
    have := (own_lt h.ps hb).2
    have := F.lt
    omega
theorem Mid.later {r hi kb N p : Nat} {n : Node} {t wa : Bool} {u f g : Value} {st : List Int} {ps : List Part} {vs vp : Value} {w W W' : World} (h : Mid r hi kb N p n t wa u f g st ps vs vp w W) (hb : Below W.heap.size W W') : Mid r hi kb N p n t wa u f g st ps vs vp w W' := by
  have hk := (Array.getElem?_eq_some_iff.1 h.wr.row).1
  exact ⟨⟨(hb.block _ hk).trans h.wr.row, own_later h.wr.st fun b q => hb.block _ (own_lt h.wr.st q).2, own_later h.wr.ps fun b q => hb.block _ (own_lt h.wr.ps q).2, h.wr.apart⟩, (hb.block _ (Array.getElem?_eq_some_iff.1 h.node).1).trans h.node, (hb.block _ (Array.getElem?_eq_some_iff.1 h.row).1).trans h.row,
    h.below.trans (hb.mono (Nat.le_of_lt hk)), h.kN, h.Np, h.olds, h.oldp⟩
theorem Mid.grown {r hi kb N p : Nat} {n : Node} {t wa : Bool} {u f g : Value} {st : List Int} {ps : List Part} {vs vp : Value} {w W W2 : World} (h : Mid r hi kb N p n t wa u f g st ps vs vp w W) (hg : W.grownBy W2 vs.ownBlock) :
    W2.heap[kb]? = some (.cells #[.map (some r), vs, vp] 67 (0, 0)) ∧ W2.heap[N]? = some (.cells (enc n) 37 (0, 0)) ∧ W2.heap[p]? = some (.cells #[.bool t, .bool wa, u, f, g] 70 (0, 0)) := by
  refine ⟨(hg.block kb (Array.getElem?_eq_some_iff.1 h.wr.row).1 fun e => ?_).trans h.wr.row, (hg.block N (Array.getElem?_eq_some_iff.1 h.node).1 fun e => (h.olds N e.symm).1 rfl).trans h.node, (hg.block p (Array.getElem?_eq_some_iff.1 h.row).1 fun e => (h.olds p e.symm).2 rfl).trans h.row⟩
  have := (own_lt h.wr.st e.symm).1
  omega
/-- Behind 'k.starts, ok = k.starts.Add(arity)'. -/
theorem Mid.starts {r hi kb N p : Nat} {n : Node} {t wa : Bool} {u f g : Value} {st st2 : List Int} {ps : List Part} {vs vp v2 : Value} {w W W2 : World} (h : Mid r hi kb N p n t wa u f g st ps vs vp w W)
    (h2 : OwnI W2 (kb + 1) v2 st2) (hg : W.grownBy W2 vs.ownBlock) (ho : v2.ownBlock = vs.ownBlock ∨ ∃ b, v2.ownBlock = some b ∧ W.heap.size ≤ b) : Mid r hi kb N p n t wa u f g st2 ps v2 vp w (W2.setCell ⟨kb, 1, none⟩ v2) := by
  have hk := (Array.getElem?_eq_some_iff.1 h.wr.row).1
  have hN := (Array.getElem?_eq_some_iff.1 h.node).1
  have hp := (Array.getElem?_eq_some_iff.1 h.row).1
  have hkne : some kb ≠ vs.ownBlock := fun e => by have := (own_lt h.wr.st e.symm).1; omega
  have hk2 : W2.heap[kb]? = _ := (hg.block kb hk hkne).trans h.wr.row
  have hN2 := h.kN
  have hNp := h.Np
  refine ⟨⟨?_, ?_, ?_, ?_⟩, ?_, ?_, ?_, h.kN, h.Np, ?_, h.oldp⟩
  · rw [heap_setCell_same W2 kb 1 _ _ _ hk2]
    rfl
  · exact own_later h2 fun b hb => heap_setCell_other _ _ _ _ (by have := (own_lt h2 hb).1; simp; omega)
  · refine own_later h.wr.ps fun b hb => ?_
    have hl := own_lt h.wr.ps hb
    rw [heap_setCell_other _ _ _ _ (by simp; omega)]
    exact hg.block b hl.2 fun e => h.wr.apart b e.symm hb
  · intro b hb hb2
    rcases ho with ho | ⟨b', ho, hge⟩
    · exact h.wr.apart b (ho ▸ hb) hb2
    · rw [ho] at hb
      cases hb
      have := (own_lt h.wr.ps hb2).2
      omega
  · rw [heap_setCell_other _ _ _ _ (by simp; omega)]
    exact (hg.block N hN fun e => (h.olds N e.symm).1 rfl).trans h.node
  · rw [heap_setCell_other _ _ _ _ (by simp; omega)]
    exact (hg.block p hp fun e => (h.olds p e.symm).2 rfl).trans h.row
  · exact (h.below.grown hg (Nat.le_of_lt hk) fun k e => by have := (own_lt h.wr.st e).1; omega).setCell (Nat.le_refl _) _
  · intro b hb
    rcases ho with ho | ⟨b', ho, hge⟩
    · exact h.olds b (ho ▸ hb)
    · rw [ho] at hb
      cases hb
      omega
/-- Behind 'k.parts = append(k.parts, p)'. -/
theorem Mid.parts {r hi kb N p : Nat} {n : Node} {t wa : Bool} {u f g : Value} {st : List Int} {ps ps2 : List Part} {vs vp v2 : Value} {w W W2 : World} (h : Mid r hi kb N p n t wa u f g st ps vs vp w W)
    (h2 : OwnP W2 (kb + 1) v2 ps2) (hg : W.grownBy W2 vp.ownBlock) (ho : v2.ownBlock = vp.ownBlock ∨ ∃ b, v2.ownBlock = some b ∧ W.heap.size ≤ b) : Mid r hi kb N p n t wa u f g st ps2 vs v2 w (W2.setCell ⟨kb, 2, none⟩ v2) := by
  have hk := (Array.getElem?_eq_some_iff.1 h.wr.row).1
  have hN := (Array.getElem?_eq_some_iff.1 h.node).1
  have hp := (Array.getElem?_eq_some_iff.1 h.row).1
  have hkne : some kb ≠ vp.ownBlock := fun e => by have := (own_lt h.wr.ps e.symm).1; omega
  have hk2 : W2.heap[kb]? = _ := (hg.block kb hk hkne).trans h.wr.row
  have hN2 := h.kN
  have hNp := h.Np
  refine ⟨⟨?_, ?_, ?_, ?_⟩, ?_, ?_, ?_, h.kN, h.Np, h.olds, ?_⟩
  · rw [heap_setCell_same W2 kb 2 _ _ _ hk2]
    rfl
  · refine own_later h.wr.st fun b hb => ?_
    have hl := own_lt h.wr.st hb
    rw [heap_setCell_other _ _ _ _ (by simp; omega)]
    exact hg.block b hl.2 fun e => h.wr.apart b hb e.symm
  · exact own_later h2 fun b hb => heap_setCell_other _ _ _ _ (by have := (own_lt h2 hb).1; simp; omega)
  · intro b hb hb2
    rcases ho with ho | ⟨b', ho, hge⟩
    · exact h.wr.apart b hb (ho ▸ hb2)
    · rw [ho] at hb2
      cases hb2
      have := (own_lt h.wr.st hb).2
      omega
  · rw [heap_setCell_other _ _ _ _ (by simp; omega)]
    exact (hg.block N hN fun e => (h.oldp N e.symm).1 rfl).trans h.node
  · rw [heap_setCell_other _ _ _ _ (by simp; omega)]
    exact (hg.block p hp fun e => (h.oldp p e.symm).2 rfl).trans h.row
  · exact (h.below.grown hg (Nat.le_of_lt hk) fun k e => by have := (own_lt h.wr.ps e).1; omega).setCell (Nat.le_refl _) _
  · intro b hb
    rcases ho with ho | ⟨b', ho, hge⟩
    · exact h.oldp b (ho ▸ hb)
    · rw [ho] at hb
      cases hb
      omega
theorem keep_k2 {w : World} {a : Addr} {v : Value} {o1 o2 : Obj} (h : w.cell? a = some v) : ((w.alloc o1).alloc o2).drew.cell? a = some v :=
  ((((Below.refl w.heap.size w).alloc (Nat.le_refl _) o1).alloc (by simp) o2).drew.cell (World.block_lt_of_cell? w _ h)).trans h
theorem keep_f2 {w : World} {a : Addr} {v : Value} {o1 o2 : Obj} (h : w.cell? a = some v) (hf : w.frozen? a = false) : ((w.alloc o1).alloc o2).drew.frozen? a = false :=
  ((((Below.refl w.heap.size w).alloc (Nat.le_refl _) o1).alloc (by simp) o2).drew.frozen (World.block_lt_of_cell? w _ h)).trans hf
theorem keepP {kb D : Nat} {vp c0 c1 c2 : Value} {W W' : World} (h : W.cell? ⟨kb, 2, none⟩ = some vp ∧ W.frozen? ⟨kb, 2, none⟩ = false ∧ W.cell? ⟨D, 0, none⟩ = some c0 ∧ W.cell? ⟨D, 1, none⟩ = some c1 ∧ W.cell? ⟨D, 2, none⟩ = some c2 ∧ kb < W.heap.size ∧ D < W.heap.size)
    (hk : W'.heap[kb]? = W.heap[kb]?) (hD : W'.heap[D]? = W.heap[D]?) (hs : W.heap.size ≤ W'.heap.size) :
    W'.cell? ⟨kb, 2, none⟩ = some vp ∧ W'.frozen? ⟨kb, 2, none⟩ = false ∧ W'.cell? ⟨D, 0, none⟩ = some c0 ∧ W'.cell? ⟨D, 1, none⟩ = some c1 ∧ W'.cell? ⟨D, 2, none⟩ = some c2 ∧ kb < W'.heap.size ∧ D < W'.heap.size :=
  ⟨(World.cell?_of_block (w := W) (a := ⟨kb, 2, none⟩) hk).trans h.1, (World.frozen?_of_block (w := W) (a := ⟨kb, 2, none⟩) hk).trans h.2.1, (World.cell?_of_block (w := W) (a := ⟨D, 0, none⟩) hD).trans h.2.2.1, (World.cell?_of_block (w := W) (a := ⟨D, 1, none⟩) hD).trans h.2.2.2.1, (World.cell?_of_block (w := W) (a := ⟨D, 2, none⟩) hD).trans h.2.2.2.2.1,
    Nat.lt_of_lt_of_le h.2.2.2.2.2.1 hs, Nat.lt_of_lt_of_le h.2.2.2.2.2.2 hs⟩
theorem keepP_start {kb : Nat} {vp : Value} {w5 : World} {P : Part} (k2 : w5.cell? ⟨kb, 2, none⟩ = some vp) (k2f : w5.frozen? ⟨kb, 2, none⟩ = false) :
    (w5.alloc (.cells #[.bool P.truth, .bool P.constant, .int .u32 P.value] 63)).drew.cell? ⟨kb, 2, none⟩ = some vp ∧ (w5.alloc (.cells #[.bool P.truth, .bool P.constant, .int .u32 P.value] 63)).drew.frozen? ⟨kb, 2, none⟩ = false ∧ (w5.alloc (.cells #[.bool P.truth, .bool P.constant, .int .u32 P.value] 63)).drew.cell? ⟨w5.heap.size, 0, none⟩ = some (.bool P.truth) ∧ (w5.alloc (.cells #[.bool P.truth, .bool P.constant, .int .u32 P.value] 63)).drew.cell? ⟨w5.heap.size, 1, none⟩ = some (.bool P.constant) ∧ (w5.alloc (.cells #[.bool P.truth, .bool P.constant, .int .u32 P.value] 63)).drew.cell? ⟨w5.heap.size, 2, none⟩ = some (.int .u32 P.value) ∧ kb < (w5.alloc (.cells #[.bool P.truth, .bool P.constant, .int .u32 P.value] 63)).drew.heap.size ∧ w5.heap.size < (w5.alloc (.cells #[.bool P.truth, .bool P.constant, .int .u32 P.value] 63)).drew.heap.size := by
  have hB : Below w5.heap.size w5 (w5.alloc (.cells #[.bool P.truth, .bool P.constant, .int .u32 P.value] 63)).drew := ((Below.refl _ w5).alloc (Nat.le_refl _) _).drew
  have hl := World.block_lt_of_cell? w5 _ k2
  have hh : (w5.alloc (.cells #[.bool P.truth, .bool P.constant, .int .u32 P.value] 63)).drew.heap[w5.heap.size]? = some (.cells #[.bool P.truth, .bool P.constant, .int .u32 P.value] 63 (0, 0)) := heap_alloc_new w5 _
  have hs : w5.heap.size < (w5.alloc (.cells #[.bool P.truth, .bool P.constant, .int .u32 P.value] 63)).drew.heap.size := by show _ < (w5.alloc _).heap.size; simp
  exact ⟨(hB.cell hl).trans k2, (hB.frozen hl).trans k2f, by rw [cell_of_row _ _ 0 _ _ _ hh]; rfl, by rw [cell_of_row _ _ 1 _ _ _ hh]; rfl, by rw [cell_of_row _ _ 2 _ _ _ hh]; rfl, Nat.lt_of_lt_of_le hl (Nat.le_of_lt hs), hs⟩
/-- A slice of nodes whose numbers are such as their types allow. -/
structure NodesOk (ns : List Node) : Prop where
  bytes : ∀ n ∈ ns, n.bytes
  u32 : ∀ n ∈ ns, isU32 n.n
  len : ns.length ≤ 1954687338260
def oneB (st : List Int) : Bool := decide (0 < st.length ∧ st.getD (st.length - 1) 0 = 0)
/-- The way through a list: the place, the error; where trees begin; the trees. -/
def runT : List Node → Int → List Int → List Part → Int × Int × List Int × List Part
  | [], at_, st, ps => if oneB st then (0, 0, st, ps) else (at_, 120, st, ps)
  | n :: ns, at_, st, ps => if (stepT n st ps).1 ≠ 0 then (at_, (stepT n st ps).1, st, ps) else runT ns (at_ + 1) (stepT n st ps).2.1 (stepT n st ps).2.2
theorem addL_len {st st2 : List Int} {a : Nat} (h : addL st a = some st2) : st2.length = st.length + 1 := by
  unfold addL at h
  cases hd : downs st a st.length with
  | none => rw [hd] at h; cases h
  | some r => rw [hd] at h; cases h; simp
theorem stepT_len {n : Node} {st : List Int} {ps : List Part} (h : (stepT n st ps).1 = 0) : (stepT n st ps).2.1.length = st.length + 1 := by
  unfold stepT at h ⊢
  cases ha : arityK n.kind with
  | none => rw [ha] at h; cases h
  | some a =>
    simp only [ha] at h ⊢
    cases hb : addL st a with
    | none => rw [hb] at h; cases h
    | some st2 =>
      have := addL_len hb
      simp only [hb] at h ⊢
      by_cases h1 : unusedB n.kind n = false
      · rw [if_pos h1] at h; cases h
      · rw [if_neg h1] at h ⊢
        by_cases h2 : (madeL n (truthK n.kind) (wantsK n.kind) (kidsL a st ps)).2 ≠ 0
        · rw [if_pos h2] at h; exact absurd h h2
        · rw [if_neg h2] at h ⊢
          by_cases h3 : fitsB n.kind n = false
          · rw [if_pos h3] at h; cases h
          · rw [if_neg h3] at h ⊢
            by_cases h4 : n.kind = 15 ∧ wholeB n = false
            · rw [if_pos h4] at h; cases h
            · rw [if_neg h4]
              exact this
theorem WalkAt.later {r hi kb : Nat} {st : List Int} {ps : List Part} {w W : World} (h : WalkAt r hi kb st ps w) (hb : Below w.heap.size w W) : WalkAt r hi kb st ps W := by
  obtain ⟨vs, vp, hR⟩ := h.row
  have hk := (Array.getElem?_eq_some_iff.1 hR.row).1
  refine ⟨h.tab.below hb h.tab.size, h.le, ⟨vs, vp, (hb.block _ hk).trans hR.row, own_later hR.st fun b q => hb.block _ (own_lt hR.st q).2, own_later hR.ps fun b q => hb.block _ (own_lt hR.ps q).2, hR.apart⟩, h.starts, h.len, h.u32⟩
theorem walk_start {w w1 : World} {r : Nat} (h : TabN w r 16 w1) : WalkAt r w1.heap.size w1.heap.size [] [] (w1.alloc (.cells #[.map (some r), .slice none 0 0, .slice none 0 0] 67)) := by
  have hb : Below w1.heap.size w1 (w1.alloc (.cells #[.map (some r), .slice none 0 0, .slice none 0 0] 67)) := (Below.refl _ w1).alloc (Nat.le_refl _) _
  refine ⟨TabAt.below ⟨?_, h.lt, Nat.le_refl _⟩ hb (Nat.le_refl _), Nat.le_refl _, ⟨_, _, heap_alloc_new w1 _, World.ownsRow_nil _ _ _ _, World.ownsRow_nil _ _ _ _, (fun b e => by cases e)⟩, (fun i hi => by cases hi), rfl, (fun p hp => by cases hp)⟩
  exact h.out
end Go.Proofs.YtffkaphbgfdpaaaGreatDoor.T
end

section
/- (*types.walk).add: one node more. -/
namespace Go.Proofs.YtffkaphbgfdpaaaGreatDoor.T
open Go.RowKit Go.Shelf
set_option linter.unusedVariables false
set_option maxRecDepth 100000
set_option linter.unusedSimpArgs false

set_option maxRecDepth 100000 in
set_option maxHeartbeats 3200000 in
theorem add_none (r hi kb : Nat) (n : Node) (st : List Int) (ps : List Part) (w : World) (hW : WalkAt r hi kb st ps w) (hk : arityK n.kind = none) :
    Calls Tryz.prog 50 #[.pointer (some ⟨kb, 0, none⟩), .agg (enc n)] w fun e w' => e = .returned (.int .i64 120) ∧ Below kb w w' := by
  obtain ⟨vs, vp, hR⟩ := hW.row
  have c0 : w.cell? ⟨kb, 0, none⟩ = some (.map (some r)) := by rw [cell_of_row w kb 0 _ _ _ hR.row]; rfl
  have lk := World.block_lt_of_cell? w _ c0
  have hkr := arityK_none hk
  have hL : ∀ W, Below w.heap.size w W → (Instr.lookup 64 (.map (some r)) (.int .i64 n.kind) true).run Tryz.prog W = .ok (.tuple #[.agg #[.bool false, .bool false, .nilFunc, .nilFunc, .nilFunc], .bool false]) W :=
    fun W hb => (hW.tab.below hb (by have := hW.le; simp at lk; omega)).look_none hkr _ (fun W => Tryz.zeroValue70 W)
  have hT := Lib.hid hW.tab
  have hRow := Lib.hid hR
  clear hW hR
  go_enter Tryz.func50, Tryz.ntmps50
  go_upto_region 1 with fail
  go_cut [5, 6] (fun s5 s6 W => ∃ p, s5 = .pointer (some ⟨p, 0, none⟩) ∧ s6 = .bool false ∧ AtRow w w.heap.size p n false false .nilFunc .nilFunc .nilFunc W)
  case first =>
    go_region_held3 (fun w' => w'.cell? ⟨kb, 0, none⟩ = some (.map (some r)) ∧ Below w.heap.size w w' ∧ w'.heap[w.heap.size]? = some (.cells (enc n) 37 (0, 0)) ∧ w'.cell? ⟨w.heap.size, 0, none⟩ = some (.int .i64 n.kind) ∧ w.heap.size < w'.heap.size ∧ (Instr.lookup 64 (.map (some r)) (.int .i64 n.kind) true).run Tryz.prog w' = .ok (.tuple #[.agg #[.bool false, .bool false, .nilFunc, .nilFunc, .nilFunc], .bool false]) w')
      (first
        | exact look_start c0 hL
        | exact look_later hL (by assumption) ((Below.refl _ _).alloc (Nat.le_refl _) _)
        | exact look_later hL (look_start c0 hL) (below_put _ _)
        | assumption)
      (fail)
    all_goals
      go_wp2_with fail
      go_meet
      exact ⟨_, rfl, rfl, atRow_new⟩
  case rest =>
    obtain ⟨p, rfl, rfl, F⟩ := hcut
    obtain ⟨sA, sc, rfl, -⟩ := hRow.out.st.form
    have M := Mid.start (hi := hi) hRow.out F
    have hk0 : wc.cell? ⟨kb, 0, none⟩ = some (.map (some r)) := by rw [cell_of_row wc kb 0 _ _ _ M.wr.row]; rfl
    have hk1 : wc.cell? ⟨kb, 1, none⟩ = some (.slice sA st.length sc) := by rw [cell_of_row wc kb 1 _ _ _ M.wr.row]; rfl
    have hf1 : wc.frozen? ⟨kb, 1, none⟩ = false := frozen_of_row wc kb 1 _ _ M.wr.row
    have hn0 : wc.cell? ⟨w.heap.size, 0, none⟩ = some (.int .i64 n.kind) := by rw [cell_of_row wc _ 0 _ _ _ M.node]; rfl
    have HM := Lib.hid M
    clear F M
    go_wp2_with fail
    refine (arity_any _ _).mono ?_
    rw [hk]
    rintro e w2 ⟨rfl, rfl⟩
    go_wp2_with fail
    go_ret
    exact ⟨rfl, HM.out.below⟩
set_option maxRecDepth 100000 in
set_option maxHeartbeats 3200000 in
theorem add_some (r hi kb a : Nat) (n : Node) (st : List Int) (ps : List Part) (w : World) (hW : WalkAt r hi kb st ps w) (hk : arityK n.kind = some a) (hn : st.length + 1 ≤ 2000000000000) (hnb : n.bytes) (hnu : isU32 n.n) :
    Calls Tryz.prog 50 #[.pointer (some ⟨kb, 0, none⟩), .agg (enc n)] w fun e w' => e = .returned (.int .i64 (stepT n st ps).1) ∧ Below kb w w' ∧ ((stepT n st ps).1 = 0 → WalkAt r hi kb (stepT n st ps).2.1 (stepT n st ps).2.2 w') := by
  obtain ⟨vs, vp, hR⟩ := hW.row
  have c0 : w.cell? ⟨kb, 0, none⟩ = some (.map (some r)) := by rw [cell_of_row w kb 0 _ _ _ hR.row]; rfl
  have lk := World.block_lt_of_cell? w _ c0
  have hkr := arityK_range hk
  have hlt := hW.tab.lt
  have hsz := hW.tab.size
  have hle0 := hW.le
  simp at lk
  obtain ⟨es, e1, e2, e3⟩ := hW.tab.out
  obtain ⟨v, hv⟩ := lookE_some e2 hkr.1 hkr.2.1
  have hm := e3 _ (lookE_mem hv)
  obtain ⟨u, f, g, he, q1, q2, q3⟩ := hm.out
  simp only at he
  subst he
  obtain ⟨fu, cu, rfl, hfu⟩ := q1
  obtain ⟨ff, cf, rfl, hff⟩ := q2
  obtain ⟨fg, cg, rfl, hfg⟩ := q3
  have hL : ∀ W, Below w.heap.size w W → (Instr.lookup 64 (.map (some r)) (.int .i64 n.kind) true).run Tryz.prog W = .ok (.tuple #[.agg #[.bool (truthK n.kind), .bool (wantsK n.kind), .func (.func fu) #[] cu, .func (.func ff) #[] cf, .func (.func fg) #[] cg], .bool true]) W := by
    intro W hb
    have := run_lookup_int (P := Tryz.prog) W _ _ _ Tryz.underlying64 Tryz.underlying3 _ (fun W => Tryz.zeroValue70 W) r es (e1.congr (hb.block r (by omega))) n.kind true
    rw [hv] at this
    simpa using this
  have hT := Lib.hid hW.tab
  have hst := Lib.hid hW.starts
  have hlen := Lib.hid hW.len
  have hps := Lib.hid hW.u32
  have hRow := Lib.hid hR
  have Hfu := Lib.hid hfu
  have Hff := Lib.hid hff
  have hle := Lib.hid hW.le
  clear hW hm hR hfu hff hfg e1 e2 e3 hv
  obtain ⟨tr, htr⟩ : ∃ b, truthK n.kind = b := ⟨_, rfl⟩
  obtain ⟨wa, hwa⟩ : ∃ b, wantsK n.kind = b := ⟨_, rfl⟩
  rw [htr, hwa] at hL
  have Htr := Lib.hid htr
  have Hwa := Lib.hid hwa
  clear htr hwa
  go_enter Tryz.func50, Tryz.ntmps50
  go_upto_region 1 with fail
  go_cut [5, 6] (fun s5 s6 W => ∃ p, s5 = .pointer (some ⟨p, 0, none⟩) ∧ s6 = .bool true ∧ AtRow w w.heap.size p n tr wa (.func (.func fu) #[] cu) (.func (.func ff) #[] cf) (.func (.func fg) #[] cg) W)
  case first =>
    go_region_held3 (fun w' => w'.cell? ⟨kb, 0, none⟩ = some (.map (some r)) ∧ Below w.heap.size w w' ∧ w'.heap[w.heap.size]? = some (.cells (enc n) 37 (0, 0)) ∧ w'.cell? ⟨w.heap.size, 0, none⟩ = some (.int .i64 n.kind) ∧ w.heap.size < w'.heap.size ∧ (Instr.lookup 64 (.map (some r)) (.int .i64 n.kind) true).run Tryz.prog w' = .ok (.tuple #[.agg #[.bool tr, .bool wa, .func (.func fu) #[] cu, .func (.func ff) #[] cf, .func (.func fg) #[] cg], .bool true]) w')
      (first
        | exact look_start c0 hL
        | exact look_later hL (by assumption) ((Below.refl _ _).alloc (Nat.le_refl _) _)
        | exact look_later hL (look_start c0 hL) (below_put _ _)
        | assumption)
      (fail)
    all_goals
      go_wp2_with fail
      go_meet
      exact ⟨_, rfl, rfl, atRow_new⟩
  case rest =>
    obtain ⟨p, rfl, rfl, F⟩ := hcut
    obtain ⟨sA, sc, rfl, -⟩ := hRow.out.st.form
    have M := Mid.start (hi := hi) hRow.out F
    have hk0 : wc.cell? ⟨kb, 0, none⟩ = some (.map (some r)) := by rw [cell_of_row wc kb 0 _ _ _ M.wr.row]; rfl
    have hk1 : wc.cell? ⟨kb, 1, none⟩ = some (.slice sA st.length sc) := by rw [cell_of_row wc kb 1 _ _ _ M.wr.row]; rfl
    have hf1 : wc.frozen? ⟨kb, 1, none⟩ = false := frozen_of_row wc kb 1 _ _ M.wr.row
    have hn0 : wc.cell? ⟨w.heap.size, 0, none⟩ = some (.int .i64 n.kind) := by rw [cell_of_row wc _ 0 _ _ _ M.node]; rfl
    have HM := Lib.hid M
    clear F M
    have hLc := Lib.hid hL
    clear hL
    go_wp2_with fail
    refine (arity_any _ _).mono ?_
    rw [hk]
    rintro e w2 ⟨rfl, rfl⟩
    go_wp2_with fail
    cases hadd : addL st a with
    | none =>
      have hres : stepT n st ps = (120, st, ps) := by simp [stepT, hk, hadd]
      refine (add_no (kb + 1) _ st a _ HM.out.wr.st hst.out hkr.2.2 (by omega) hadd).mono ?_
      rintro e w2 ⟨rfl, rfl⟩
      go_wp2_with fail
      go_ret
      rw [hres]
      exact ⟨rfl, HM.out.below.setCell (Nat.le_refl _) _, fun h => by cases h⟩
    | some st2 =>
      refine (add_yes (kb + 1) _ st st2 a _ HM.out.wr.st hst.out hkr.2.2 (by omega) (by have := (Array.getElem?_eq_some_iff.1 HM.out.wr.row).1; omega) hadd).mono ?_
      rintro e w2 ⟨v2, rfl, hown, hgrow, hob, hst2⟩
      have M2 := HM.out.starts hown hgrow hob
      obtain ⟨gk, gn, gp⟩ := HM.out.grown hgrow
      obtain ⟨A2, c2, rfl, -⟩ := hown.form
      have hk1 : w2.cell? ⟨kb, 1, none⟩ = some (.slice sA st.length sc) := by rw [cell_of_row w2 kb 1 _ _ _ gk]; rfl
      have hf1 : w2.frozen? ⟨kb, 1, none⟩ = false := frozen_of_row w2 kb 1 _ _ gk
      have hp2 : w2.cell? ⟨p, 2, none⟩ = some (.func (.func fu) #[] cu) := by rw [cell_of_row w2 p 2 _ _ _ gp]; rfl
      have hn2 : nodeAt w2 ⟨w.heap.size, 0, none⟩ = some n := nodeAt_row gn
      have hkn := HM.out.kN
      have hnp := HM.out.Np
      have hpk : p ≠ kb := by omega
      have hM2 := Lib.hid M2
      clear M2 hown hgrow hob gk gn gp HM hk0 hn0 c0
      have hn3 : nodeAt (w2.setCell ⟨kb, 1, none⟩ (.slice A2 st2.length c2)) ⟨w.heap.size, 0, none⟩ = some n := nodeAt_row hM2.out.node
      have hag : AgreeOn (r + 1) hi w (w2.setCell ⟨kb, 1, none⟩ (.slice A2 st2.length c2)) := AgreeOn.below hM2.out.below hle0 hsz
      have HC := Hfu.out.2 _ hag n
      have he := Hfu.out.1
      unfold Enters at he
      go_wp2_with fail
      refine HC.mono ?_
      rintro e w3 ⟨rfl, hB3⟩
      have M3 := hM2.out.later hB3
      clear hn3 hag HC hk1 hf1 hp2 hn2 hM2 hB3 he
      cases hun : unusedB n.kind n with
      | false =>
        have hres : stepT n st ps = (120, st, ps) := by simp [stepT, hk, hadd, hun]
        have HB := Lib.hid M3.below
        clear M3
        go_wp2_with fail
        go_ret
        rw [hres]
        exact ⟨rfl, HB.out, fun h => by cases h⟩
      | true =>
        have hk1 : w3.cell? ⟨kb, 1, none⟩ = some (.slice A2 st2.length c2) := by rw [cell_of_row w3 kb 1 _ _ _ M3.wr.row]; rfl
        obtain ⟨q0, hq0, rfl⟩ : ∃ q, downs st a st.length = some q ∧ st ++ [q] = st2 := by simpa [addL] using hadd
        have hl2 : (st ++ [q0]).length = st.length + 1 := by simp
        rw [hl2] at hk1
        have HM3 := Lib.hid M3
        clear M3
        go_upto_block 0 with fail
        go_cut [10] (fun s10 W => ∃ A c q, s10 = .slice A (kidsL a st ps).length c ∧ (0 < (kidsL a st ps).length → A = some ⟨q, 0, none⟩) ∧ KidsAt W q (kidsL a st ps) ∧ Mid r hi kb w.heap.size p n tr wa (.func (.func fu) #[] cu) (.func (.func ff) #[] cf) (.func (.func fg) #[] cg) (st ++ [q0]) ps (.slice A2 (st ++ [q0]).length c2) vp w W)
        case first =>
          have h012 : a = 0 ∨ a = 1 ∨ a = 2 := by have := hkr.2.2; omega
          obtain ⟨B, cp, rfl, hB⟩ := ownP_form HM3.out.wr.ps
          have hk2 : w3.cell? ⟨kb, 2, none⟩ = some (.slice B ps.length cp) := by rw [cell_of_row w3 kb 2 _ _ _ HM3.out.wr.row]; rfl
          rcases h012 with rfl | rfl | rfl
          · go_wp2_with fail
            go_meet
            exact ⟨none, 0, 0, rfl, (fun h => by simp [kidsL] at h), (fun i hi => by simp [kidsL] at hi), HM3.out⟩
          · have hpos : 0 < st.length := by
              rcases Nat.eq_zero_or_pos st.length with h | h
              · simp [downs, h] at hq0
              · exact h
            have hlp := hlen.out
            obtain ⟨gp, rfl, hgp, hcell⟩ := hB (by omega)
            have d0 := hcell (st.length - 1) (by omega) 0 _ rfl
            have d1 := hcell (st.length - 1) (by omega) 1 _ rfl
            have d2 := hcell (st.length - 1) (by omega) 2 _ rfl
            obtain ⟨P, hP⟩ : ∃ P, ps.getD (st.length - 1) Part.zero = P := ⟨_, rfl⟩
            rw [hP] at d0 d1 d2
            rw [Nat.add_zero] at d0
            have hP' := Lib.hid hP
            have i0 : (0 : Int) ≤ (st.length : Int) - 1 := by omega
            have i1 : (st.length : Int) - 1 < (ps.length : Int) := by omega
            have i2 : (st.length : Int) ≤ (ps.length : Int) := by omega
            have i3 : (1 : Int) ≤ (st.length : Int) := by omega
            have i4 : (0 : Int) < (st.length : Int) := by omega
            have i5 : st.length ≤ ps.length := by omega
            have lg := World.block_lt_of_cell? w3 _ d0
            have lk3 := World.block_lt_of_cell? w3 _ hk1
            clear hcell hB hq0 hP hlp
            go_upto_region 11 with fail
            go_region_held3 (fun w' => w'.cell? ⟨kb, 1, none⟩ = some (.slice A2 (st.length + 1) c2) ∧ w'.cell? ⟨kb, 2, none⟩ = some (.slice (some ⟨gp, 0, none⟩) ps.length cp) ∧ w'.cell? ⟨gp, (st.length - 1) * 3, none⟩ = some (.bool P.truth) ∧ w'.cell? ⟨gp, (st.length - 1) * 3 + 1, none⟩ = some (.bool P.constant) ∧ w'.cell? ⟨gp, (st.length - 1) * 3 + 2, none⟩ = some (.int .u32 P.value) ∧ Below w3.heap.size w3 w')
              (first | exact ⟨hk1, hk2, d0, d1, d2, (Below.refl _ _).drew⟩ | exact keep5 (W := w3.drew) ⟨hk1, hk2, d0, d1, d2, (Below.refl w3.heap.size w3).drew⟩ (below_put _ _))
              ((go_at_call 66; refine (right_any _ _ _ (by omega) (by omega)).mono ?_; rintro e w4 ⟨rfl, rfl⟩))
            all_goals
              go_wp2_with fail
              go_meet
              refine ⟨some ⟨w3.heap.size, 0, none⟩, 1, w3.heap.size, rfl, fun _ => rfl, ?_, HM3.out.later (((Below.refl w3.heap.size w3).alloc (Nat.le_refl _) _).drew)⟩
              rw [show kidsL 1 st ps = [P] from by rw [← hP'.out]; rfl]
              exact kids_new1 _ _
          · have hpos : 0 < st.length := by
              rcases Nat.eq_zero_or_pos st.length with h | h
              · simp [downs, h] at hq0
              · exact h
            have hlp := hlen.out
            obtain ⟨gp, rfl, hgp, hcell⟩ := hB (by omega)
            obtain ⟨m, hm, hms⟩ : ∃ m : Nat, st.getD (st.length - 1) 0 = (m : Int) + 1 ∧ m < st.length - 1 := by
              have h1 := hst.out (st.length - 1) (by omega)
              have h2 : st.getD (st.length - 1) 0 ≠ 0 := by
                intro h
                have hz : ¬ ((st.length : Int) = 0) := by omega
                simp only [downs, if_neg hz, Int.toNat_natCast, h, if_true] at hq0
                cases hq0
              exact ⟨(st.getD (st.length - 1) 0 - 1).toNat, by omega, by omega⟩
            have d0 := hcell (st.length - 1) (by omega) 0 _ rfl
            have d1 := hcell (st.length - 1) (by omega) 1 _ rfl
            have d2 := hcell (st.length - 1) (by omega) 2 _ rfl
            have f0 := hcell m (by omega) 0 _ rfl
            have f1 := hcell m (by omega) 1 _ rfl
            have f2 := hcell m (by omega) 2 _ rfl
            have hkids : kidsL 2 st ps = [ps.getD m Part.zero, ps.getD (st.length - 1) Part.zero] := by
              unfold kidsL
              rw [hm]
              simp
            obtain ⟨P, hP⟩ : ∃ P, ps.getD (st.length - 1) Part.zero = P := ⟨_, rfl⟩
            obtain ⟨Q, hQ⟩ : ∃ Q, ps.getD m Part.zero = Q := ⟨_, rfl⟩
            rw [hP] at d0 d1 d2
            rw [hQ] at f0 f1 f2
            rw [hP, hQ] at hkids
            rw [Nat.add_zero] at d0 f0
            have hKids := Lib.hid hkids
            obtain ⟨A3, c3, e3, h3⟩ := HM3.out.wr.st.form
            obtain ⟨g3, hg3, _, hc3⟩ := h3 (by simp)
            simp only [Value.slice.injEq] at e3
            obtain ⟨rfl, -, rfl⟩ := e3
            subst hg3
            have hl3 : ∀ W, Below w3.heap.size w3 W → Calls Tryz.prog 31 #[.slice (some ⟨g3, 0, none⟩) (st.length + 1) c2, .int .i64 (st.length : Int)] W fun e w' => e = .returned (.int .i64 (m : Int)) ∧ W = w' := by
              intro W hW
              have hgd : (st ++ [q0]).getD ((st.length : Int).toNat - 1) 0 = (m : Int) + 1 := by
                rw [← hm, Int.toNat_natCast]
                simp [List.getD_eq_getElem?_getD, List.getElem?_append_left (show st.length - 1 < st.length by omega)]
              have := left_any (some ⟨g3, 0, none⟩) (st.length + 1) c2 g3 (st ++ [q0]) (st.length : Int) W rfl (fun j hj => (hW.cell (World.block_lt_of_cell? w3 _ (hc3 j hj))).trans (hc3 j hj)) (by simp) (by omega) (by simp; omega) (by rw [hgd]; omega) (by rw [hgd]; omega) (by omega)
              rw [hgd, Int.add_sub_cancel] at this
              exact this
            have HL3 := Lib.hid hl3
            have i0 : (0 : Int) ≤ (st.length : Int) - 1 := by omega
            have i1 : (st.length : Int) - 1 < (ps.length : Int) := by omega
            have i2 : (st.length : Int) ≤ (ps.length : Int) := by omega
            have i3 : (1 : Int) ≤ (st.length : Int) := by omega
            have i4 : (0 : Int) < (st.length : Int) := by omega
            have i5 : st.length ≤ ps.length := by omega
            have j0 : (0 : Int) ≤ (m : Int) := by omega
            have j1 : (m : Int) < (ps.length : Int) := by omega
            have lg := World.block_lt_of_cell? w3 _ d0
            have lk3 := World.block_lt_of_cell? w3 _ hk1
            clear hcell hB hq0 hP hQ hkids h3 hc3 hl3 hm hlp
            go_upto_region 13 with fail
            go_region_held3 (fun w' => w'.cell? ⟨kb, 1, none⟩ = some (.slice (some ⟨g3, 0, none⟩) (st.length + 1) c2) ∧ w'.cell? ⟨kb, 2, none⟩ = some (.slice (some ⟨gp, 0, none⟩) ps.length cp) ∧ w'.cell? ⟨gp, (st.length - 1) * 3, none⟩ = some (.bool P.truth) ∧ w'.cell? ⟨gp, (st.length - 1) * 3 + 1, none⟩ = some (.bool P.constant) ∧ w'.cell? ⟨gp, (st.length - 1) * 3 + 2, none⟩ = some (.int .u32 P.value) ∧
                w'.cell? ⟨gp, m * 3, none⟩ = some (.bool Q.truth) ∧ w'.cell? ⟨gp, m * 3 + 1, none⟩ = some (.bool Q.constant) ∧ w'.cell? ⟨gp, m * 3 + 2, none⟩ = some (.int .u32 Q.value) ∧ Below w3.heap.size w3 w')
              (first | exact ⟨hk1, hk2, d0, d1, d2, f0, f1, f2, (Below.refl _ _).drew⟩ | exact keep8 (W := w3.drew) ⟨hk1, hk2, d0, d1, d2, f0, f1, f2, (Below.refl w3.heap.size w3).drew⟩ (below_put _ _))
              (first | (go_at_call 66; refine (right_any _ _ _ (by omega) (by omega)).mono ?_; rintro e w4 ⟨rfl, rfl⟩) | (go_at_call 31; refine (HL3.out _ (last9 (by assumption))).mono ?_; rintro e w4 ⟨rfl, rfl⟩))
            all_goals
              go_wp2_with fail
              go_meet
              refine ⟨some ⟨w3.heap.size, 0, none⟩, 2, w3.heap.size, by rw [hKids.out]; rfl, fun _ => rfl, ?_, HM3.out.later (((Below.refl w3.heap.size w3).alloc (Nat.le_refl _) _).drew)⟩
              rw [hKids.out]
              exact kids_new2 _ _ _
        case rest =>
          obtain ⟨A, c, q, rfl, hA, hKids, M4⟩ := hcut
          have hlk : (kidsL a st ps).length ≤ 2 := by unfold kidsL; split; · simp
                                                      · split <;> simp
          have hku : ∀ x ∈ kidsL a st ps, isU32 x.value := kids_u32 hps.out
          have hk5 : n.kind = 5 → 1 ≤ (kidsL a st ps).length := fun h => by
            rw [h] at hk
            simp [arityK] at hk
            subst hk
            simp [kidsL]
          have hk4 : n.kind = 4 → 2 ≤ (kidsL a st ps).length := fun h => by
            rw [h] at hk
            simp [arityK] at hk
            subst hk
            simp [kidsL]
          have HMade := made_any n tr wa (.func (.func fu) #[] cu) (.func (.func ff) #[] cf) (.func (.func fg) #[] cg) A c q (kidsL a st ps) wc hA hKids rfl rfl rfl hlk hku hk5 hk4
          obtain ⟨code, hcode⟩ : ∃ x, (madeL n tr wa (kidsL a st ps)).2 = x := ⟨_, rfl⟩
          obtain ⟨P, hP⟩ : ∃ x, (madeL n tr wa (kidsL a st ps)).1 = x := ⟨_, rfl⟩
          rw [hcode, hP] at HMade
          obtain ⟨len, hlenk⟩ : ∃ x, (kidsL a st ps).length = x := ⟨_, rfl⟩
          rw [hlenk] at HMade ⊢
          have Hcode := Lib.hid hcode
          have HP := Lib.hid hP
          obtain ⟨B, cp, rfl, -⟩ := ownP_form M4.wr.ps
          have p0 : wc.cell? ⟨p, 0, none⟩ = some (.bool tr) := by rw [cell_of_row wc p 0 _ _ _ M4.row]; rfl
          have p1 : wc.cell? ⟨p, 1, none⟩ = some (.bool wa) := by rw [cell_of_row wc p 1 _ _ _ M4.row]; rfl
          have p2 : wc.cell? ⟨p, 2, none⟩ = some (.func (.func fu) #[] cu) := by rw [cell_of_row wc p 2 _ _ _ M4.row]; rfl
          have p3 : wc.cell? ⟨p, 3, none⟩ = some (.func (.func ff) #[] cf) := by rw [cell_of_row wc p 3 _ _ _ M4.row]; rfl
          have p4 : wc.cell? ⟨p, 4, none⟩ = some (.func (.func fg) #[] cg) := by rw [cell_of_row wc p 4 _ _ _ M4.row]; rfl
          have n4 : nodeAt wc ⟨w.heap.size, 0, none⟩ = some n := nodeAt_row M4.node
          have HM4 := Lib.hid M4
          have HMd := Lib.hid HMade
          clear M4 hA hKids hlk hku hk5 hk4 hcode hP hlenk HMade
          go_wp2_with fail
          refine HMd.out.mono ?_
          rintro e w5 ⟨rfl, hB5⟩
          have M5 := HM4.out.later hB5
          have k2 : w5.cell? ⟨kb, 2, none⟩ = some (.slice B ps.length cp) := by rw [cell_of_row w5 kb 2 _ _ _ M5.wr.row]; rfl
          have k2f : w5.frozen? ⟨kb, 2, none⟩ = false := frozen_of_row w5 kb 2 _ _ M5.wr.row
          have k2l := World.block_lt_of_cell? w5 _ k2
          have HM5 := Lib.hid M5
          clear M5 p0 p1 p2 p3 p4 n4 HMd
          obtain ⟨i0, hi0, hz0, hz1, hz2⟩ := info_parts (show (Tryz.prog.info? 63).map (fun i => (i.zero, i.size, i.bytes)) = some (some (.agg #[.bool false, .bool false, .int .u32 0]), 3, 8) by kernel_rfl)
          go_upto_region 15 with fail
          have hown5 : w5.ownsRow (kb + 1) 63 3 (.slice B ps.length cp) ps.length (ps.flatMap partL) := HM5.out.wr.ps
          have hneK : some kb ≠ (Value.slice B ps.length cp).ownBlock := fun e => by have := (own_lt hown5 e.symm).1; omega
          have hneD : some w5.heap.size ≠ (Value.slice B ps.length cp).ownBlock := fun e => by have := (own_lt hown5 e.symm).2; omega
          have hpl : ps.length + 1 ≤ 2000000000000 := by have := hlen.out; omega
          go_cut [12] (fun s12 W => s12 = .int .i64 code ∧ ∃ vp2, Mid r hi kb w.heap.size p n tr wa (.func (.func fu) #[] cu) (.func (.func ff) #[] cf) (.func (.func fg) #[] cg) (st ++ [q0]) (ps ++ [P]) (.slice A2 (st ++ [q0]).length c2) vp2 w W)
          case first =>
            go_region_law (refine step_append_lies _ (by rfl) _ _ _ (by rfl) (kb + 1) 63 i0 _ 3 8 Tryz.underlying65 hi0 hz0 hz1 hz2 rfl (by omega) (.slice B ps.length cp) ps.length (ps.flatMap partL) (by rfl) (((hown5.alloc _).alloc _).drew) ⟨w5.heap.size + 1, 0, none⟩ 1 1 [.bool P.truth, .bool P.constant, .int .u32 P.value] (by rfl) (by rfl) (World.news_of_block (cs := #[.bool P.truth, .bool P.constant, .int .u32 P.value]) (t := 63) (fr := (0, 0)) (heap_alloc2_new _ _ _)) (Part.enc1 P) (by omega) (by simp only [maxLen]; omega) (by omega) (by simp; omega) (w5.heap.size + 2) (by simp) ?_; intro gg cap w6 hown6 hgrow hat hlt6; have c6 : w6.cell? ⟨kb, 2, none⟩ = some (.slice B ps.length cp) := (hgrow.cell_far ⟨kb, 2, none⟩ (by simp; omega) hneK).trans (keep_k2 k2); have f6 : w6.frozen? ⟨kb, 2, none⟩ = false := (hgrow.frozen_far ⟨kb, 2, none⟩ (by simp; omega) hneK).trans (keep_f2 k2 k2f))
            all_goals
              go_wp2_with fail
              go_meet
              refine ⟨rfl, _, Mid.parts (HM5.out.later ((((Below.refl w5.heap.size w5).alloc (Nat.le_refl _) _).alloc (by simp) _).drew)) ?_ hgrow (hat.imp (fun h => h.symm) fun h => ⟨gg, rfl, by rw [h]; show (World.alloc _ _).heap.size ≤ _; simp⟩)⟩
              simpa [OwnP, partL] using hown6
          case rest =>
            obtain ⟨rfl, vp2, M6⟩ := hcut
            have hnz : wc.cell? ⟨w.heap.size, 0, none⟩ = some (.int .i64 n.kind) := by rw [cell_of_row wc _ 0 _ _ _ M6.node]; rfl
            have p3 : wc.cell? ⟨p, 3, none⟩ = some (.func (.func ff) #[] cf) := by rw [cell_of_row wc p 3 _ _ _ M6.row]; rfl
            have n6 : nodeAt wc ⟨w.heap.size, 0, none⟩ = some n := nodeAt_row M6.node
            have hag6 : AgreeOn (r + 1) hi w wc := AgreeOn.below M6.below hle0 hsz
            have HC6 := Hff.out.2 _ hag6 n
            have he6 := Hff.out.1
            unfold Enters at he6
            have HM6 := Lib.hid M6
            have hH6 := Lib.hid HM5
            have hres : stepT n st ps = if code ≠ 0 then (code, st, ps) else if fitsB n.kind n = false then (124, st, ps) else if n.kind = 15 ∧ wholeB n = false then (125, st, ps) else (0, st ++ [q0], ps ++ [P]) := by
              simp only [stepT, hk, hadd, hun, Htr.out, Hwa.out, Hcode.out, HP.out]
              simp
            have Hres := Lib.hid hres
            clear M6 hag6 hown5 hneK hneD HM5 k2 k2f k2l hi0 hz0 hz1 hz2 hpl hB5 hres
            by_cases hc0 : code = 0
            · subst hc0
              go_wp2_with fail
              refine HC6.mono ?_
              rintro e w7 ⟨rfl, hB7⟩
              have M7 := HM6.out.later hB7
              have n7 : nodeAt w7 ⟨w.heap.size, 0, none⟩ = some n := nodeAt_row M7.node
              have hz7 : w7.cell? ⟨w.heap.size, 0, none⟩ = some (.int .i64 n.kind) := by rw [cell_of_row w7 _ 0 _ _ _ M7.node]; rfl
              have HM7 := Lib.hid M7
              clear M7 HC6 hB7 hnz p3 n6
              cases hfit : fitsB n.kind n with
              | false =>
                have hr2 := Hres.out
                simp only [hfit, ne_eq, not_true, if_false, if_true] at hr2
                have Hr2 := Lib.hid hr2
                clear hr2
                go_wp2_with fail
                go_ret
                rw [Hr2.out]
                exact ⟨rfl, HM7.out.below, fun h => by cases h⟩
              | true =>
                have hdone : ∀ W, Below w7.heap.size w7 W → WalkAt r hi kb (st ++ [q0]) (ps ++ [P]) W := fun W hW => by
                  have M8 := HM7.out.later hW
                  refine ⟨hT.out.below M8.below hle0, hle0, ⟨_, _, M8.wr⟩, hst2, by simp [hlen.out], fun x hx => ?_⟩
                  rcases List.mem_append.1 hx with hx | hx
                  · exact hps.out x hx
                  · obtain rfl := List.mem_singleton.1 hx
                    rw [← HP.out]
                    exact made_u32 (kids_u32 hps.out) hnu
                have Hdone := Lib.hid hdone
                clear hdone
                by_cases h15 : n.kind = 15
                · have hb15 : (n.kind == 15) = true := by simp [h15]
                  have hbits : bitsB n = true := by
                    rw [h15] at hfit
                    simpa [fitsB] using hfit
                  have hbits2 : 0 ≤ n.bits ∧ n.bits ≤ 8 * widthI n := by simpa [bitsB, inR] using hbits
                  have Hwhole := whole_any n hnb hbits2.1 hbits2.2 w7
                  have hr2 := Hres.out
                  simp only [hfit, ne_eq, not_true, if_false, Bool.true_eq_false] at hr2
                  simp only [h15, true_and] at hr2
                  clear h15 hfit hbits hbits2
                  cases hwh : wholeB n with
                  | false =>
                    rw [hwh] at Hwhole hr2
                    simp only [if_true] at hr2
                    have Hr2 := Lib.hid hr2
                    have HWh := Lib.hid Hwhole
                    clear hr2 Hwhole
                    go_wp2_with fail
                    refine HWh.out.mono ?_
                    rintro e w8 ⟨rfl, hB8⟩
                    have HB8 := Lib.hid hB8
                    clear hB8
                    go_wp2_with fail
                    go_ret
                    rw [Hr2.out]
                    exact ⟨rfl, (HM7.out.later HB8.out).below, fun h => by cases h⟩
                  | true =>
                    rw [hwh] at Hwhole hr2
                    simp only [Bool.true_eq_false, if_false] at hr2
                    have Hr2 := Lib.hid hr2
                    have HWh := Lib.hid Hwhole
                    clear hr2 Hwhole
                    go_wp2_with fail
                    refine HWh.out.mono ?_
                    rintro e w8 ⟨rfl, hB8⟩
                    have HB8 := Lib.hid hB8
                    clear hB8
                    go_wp2_with fail
                    go_ret
                    rw [Hr2.out]
                    exact ⟨rfl, (HM7.out.later HB8.out).below, fun _ => Hdone.out _ HB8.out⟩
                · have hb15 : (n.kind == 15) = false := by simp [h15]
                  have hr2 := Hres.out
                  simp only [hfit, h15, ne_eq, not_true, if_false, false_and, Bool.true_eq_false] at hr2
                  have Hr2 := Lib.hid hr2
                  clear hr2 hfit
                  go_wp2_with fail
                  go_ret
                  rw [Hr2.out]
                  exact ⟨rfl, HM7.out.below, fun _ => Hdone.out _ (Below.refl _ _)⟩
            · have hr2 := Hres.out
              simp only [ne_eq, hc0, not_false_eq_true, if_true] at hr2
              have Hr2 := Lib.hid hr2
              have hcb : (code == 0) = false := by simp [hc0]
              clear hr2
              go_wp2_with fail
              go_ret
              rw [Hr2.out]
              exact ⟨rfl, HM6.out.below, fun h => absurd h hc0⟩
theorem add_any (r hi kb : Nat) (n : Node) (st : List Int) (ps : List Part) (w : World) (hW : WalkAt r hi kb st ps w) (hn : st.length + 1 ≤ 2000000000000) (hnb : n.bytes) (hnu : isU32 n.n) :
    Calls Tryz.prog 50 #[.pointer (some ⟨kb, 0, none⟩), .agg (enc n)] w fun e w' => e = .returned (.int .i64 (stepT n st ps).1) ∧ Below kb w w' ∧ ((stepT n st ps).1 = 0 → WalkAt r hi kb (stepT n st ps).2.1 (stepT n st ps).2.2 w') := by
  cases hk : arityK n.kind with
  | none =>
    have hres : stepT n st ps = (120, st, ps) := by simp [stepT, hk]
    rw [hres]
    refine (add_none r hi kb n st ps w hW hk).mono ?_
    rintro e w2 ⟨rfl, hB⟩
    exact ⟨rfl, hB, fun h => by cases h⟩
  | some a => exact add_some r hi kb a n st ps w hW hk hn hnb hnu
end Go.Proofs.YtffkaphbgfdpaaaGreatDoor.T
end

section
/- LendNodes, SameNodes. -/
namespace Go.Proofs.YtffkaphbgfdpaaaGreatDoor.T
open Go.RowKit Go.Shelf
set_option linter.unusedVariables false
set_option maxRecDepth 100000
set_option linter.unusedSimpArgs false

/-- The node that marks the room behind. -/
def Node.kn (k n : Int) : Node := { Node.zero with kind := k, n := n }
def Node.ko (k o : Int) : Node := { Node.zero with kind := k, op := o }
def Node.kf (k f : Int) : Node := { Node.zero with kind := k, of := f }
def Node.k0 (k : Int) : Node := { Node.zero with kind := k }
abbrev mark : Node := Node.kn 77 7
/-- A node, a row of nodes, built: names that the walk doesn't open. -/
def buildNode (parts : Array (Nat × Value)) : Sem Value := Instr.build 37 parts
def buildNodes (len : Nat) (parts : Array (Nat × Value)) : Sem Value := Instr.buildSlice 22 len parts
@[go_sem ↓] theorem execOp_build_node (ρ : Operand → Value) (dst : Option Tmp) (parts : Array (Nat × Operand)) (ty : TypeId) (pos : String) (after : Array Edge) (guard : Option (Nat × Bool)) :
    execOp ρ { dst, op := .build 37 parts, type := ty, pos, after, guard } = (do pure (.value (← buildNode (parts.map fun (i, x) => (i, ρ x))))) := rfl
@[go_sem ↓] theorem execOp_build_nodes (ρ : Operand → Value) (dst : Option Tmp) (len : Nat) (parts : Array (Nat × Operand)) (ty : TypeId) (pos : String) (after : Array Edge) (guard : Option (Nat × Bool)) :
    execOp ρ { dst, op := .buildSlice 22 (len + 1) parts, type := ty, pos, after, guard } = (do pure (.value (← buildNodes (len + 1) (parts.map fun (i, x) => (i, ρ x))))) := rfl
section
variable (w : World)
@[go_sem] theorem run_buildNode_kn (k n : Int) : (buildNode #[(0, .int .i64 k), (2, .int .u32 n)]).run Tryz.prog w = .ok (.agg (enc (Node.kn k n))) w := run_build w _ _ _ rfl
@[go_sem] theorem run_buildNode_k (k : Int) : (buildNode #[(0, .int .i64 k)]).run Tryz.prog w = .ok (.agg (enc (Node.k0 k))) w := run_build w _ _ _ rfl
@[go_sem] theorem run_buildNode_ko (k n : Int) : (buildNode #[(0, .int .i64 k), (1, .int .i64 n)]).run Tryz.prog w = .ok (.agg (enc (Node.ko k n))) w := run_build w _ _ _ rfl
@[go_sem] theorem run_buildNode_kf (k n : Int) : (buildNode #[(0, .int .i64 k), (5, .int .i64 n)]).run Tryz.prog w = .ok (.agg (enc (Node.kf k n))) w := run_build w _ _ _ rfl
@[go_sem] theorem run_buildNode_0 : (buildNode #[]).run Tryz.prog w = .ok (.agg (enc Node.zero)) w := run_build w _ _ _ rfl
theorem run_buildNodes (l : List Node) (h0 : 0 < l.length) (h1 : l.length ≤ 1000) :
    (buildNodes l.length (((l.map fun n => Value.agg (enc n)).zipIdx 0).map fun x => (x.2, x.1)).toArray).run Tryz.prog w = .ok (.slice (some ⟨w.heap.size, 0, none⟩) l.length l.length) (w.alloc (.cells (flat l).toArray 37)) := by
  obtain ⟨i0, hi0, hz0, hz1, hz2⟩ := info_parts nodeInfos
  refine run_buildSlice w _ _ _ _ _ i0 _ Tryz.underlying22 hi0 hz0 (by rw [hz1]; omega) (by rw [hz1]; omega) ?_
  rw [hz1]
  have := Great.fill_whole (s := 24) (by omega) (l.map fun n => Value.agg (enc n)) ((Array.range (l.length * 24)).map ((Value.agg (enc Node.zero)).cells[· % (Value.agg (enc Node.zero)).cells.size]!)) (by
    intro v hv
    obtain ⟨n, _, rfl⟩ := List.mem_map.1 hv
    exact enc_size n) (by simp)
  rw [this]
  congr 2
  rw [List.flatMap_map]
  rfl
@[go_sem] theorem run_buildNodes1 (x : Node) : (buildNodes 1 #[(0, .agg (enc x))]).run Tryz.prog w = .ok (.slice (some ⟨w.heap.size, 0, none⟩) 1 1) (w.alloc (.cells (flat [x]).toArray 37)) := run_buildNodes w [x] (by simp) (by simp)
@[go_sem] theorem run_buildNodes2 (x y : Node) : (buildNodes 2 #[(0, .agg (enc x)), (1, .agg (enc y))]).run Tryz.prog w = .ok (.slice (some ⟨w.heap.size, 0, none⟩) 2 2) (w.alloc (.cells (flat [x, y]).toArray 37)) := run_buildNodes w [x, y] (by simp) (by simp)
@[go_sem] theorem run_buildNodes3 (x y z : Node) : (buildNodes 3 #[(0, .agg (enc x)), (1, .agg (enc y)), (2, .agg (enc z))]).run Tryz.prog w = .ok (.slice (some ⟨w.heap.size, 0, none⟩) 3 3) (w.alloc (.cells (flat [x, y, z]).toArray 37)) := run_buildNodes w [x, y, z] (by simp) (by simp)
@[go_sem] theorem run_buildNodes4 (x y z u : Node) : (buildNodes 4 #[(0, .agg (enc x)), (1, .agg (enc y)), (2, .agg (enc z)), (3, .agg (enc u))]).run Tryz.prog w = .ok (.slice (some ⟨w.heap.size, 0, none⟩) 4 4) (w.alloc (.cells (flat [x, y, z, u]).toArray 37)) := run_buildNodes w [x, y, z, u] (by simp) (by simp)
end
/-- The cells of a row that lies whole in its block. -/
theorem flat_news {w : World} {b : Nat} {l : List Node} {t : TypeId} {fr : Nat × Nat} (h : w.heap[b]? = some (.cells (flat l).toArray t fr)) : ∀ j u, (flat l)[j]? = some u → w.cell? ((⟨b, 0, none⟩ : Addr).add j) = some u := fun j u hu => by
  rw [add_plain, Nat.zero_add, cell_of_row w b j _ t fr h]
  simpa using hu
theorem own_cap {w : World} {base sz n m cap : Nat} {A : Option Addr} {e : TypeId} {xs : List Value} (h : w.ownsRow base e sz (.slice A m cap) n xs) : n ≤ cap := by
  rcases h.2 with ⟨h, h0⟩ | ⟨g, c, cur, h1, h2, h3, h4, _⟩
  · cases h; omega
  · cases h1; exact h4
set_option maxRecDepth 100000 in
theorem lend_any (A : Option Addr) (c : Nat) (ns : List Node) (w : World) (hA : Ns w A ns) (hl : ns.length ≤ 1954687338260) (hnil : A = none → c = 0) :
    Calls Tryz.prog 10 #[.slice A ns.length c] w fun e w' => ∃ g c2, e = .returned (.slice (some ⟨g, 0, none⟩) ns.length c2) ∧ OwnN w' w.heap.size (.slice (some ⟨g, 0, none⟩) (ns.length + 3) c2) (ns ++ [mark, mark, mark]) ∧ Below w.heap.size w w' := by
  obtain ⟨i0, hi0, hz0, hz1, hz2⟩ := info_parts nodeInfos
  have Hz0 := Lib.hid hz0
  have Hz1 := Lib.hid hz1
  have Hz2 := Lib.hid hz2
  have HA := Lib.hid hA
  clear hz0 hz1 hz2 hA
  go_enter Tryz.func10, Tryz.ntmps10
  go_wp2_with fail
  refine (copy_any A c ns _ HA.out hl hnil).mono ?_
  rintro e w1 ⟨g, c2, rfl, hown, hB⟩
  have HO := Lib.hid hown
  have HB := Lib.hid hB
  clear hown hB
  have hx : ((w1.alloc (.cells (flat [mark, mark, mark]).toArray 37)).heap[w1.heap.size]? = some (.cells (flat [mark, mark, mark]).toArray 37 (0, 0))) := heap_alloc_new w1 _
  have Hx := Lib.hid (flat_news hx)
  clear hx
  have HO2 := Lib.hid (show (w1.alloc (.cells (flat [mark, mark, mark]).toArray 37)).ownsRow w.heap.size 37 24 (.slice (some ⟨g, 0, none⟩) ns.length c2) ns.length (flat ns) from own_later HO.out fun b hb => Below.heap_alloc _ _ _ (own_lt HO.out hb).2)
  have HS := Lib.hid HB.out.size
  go_wp2_with (at_builtin; refine wpList_append_lies _ rfl _ _ 22 rfl w.heap.size 37 i0 (.agg (enc Node.zero)) 24 72 Tryz.underlying22 hi0 Hz0.out Hz1.out Hz2.out rfl (by decide) (.slice (some ⟨g, 0, none⟩) ns.length c2) ns.length (flat ns) rfl HO2.out ⟨w1.heap.size, 0, none⟩ 3 3 (flat [mark, mark, mark]) rfl rfl Hx.out (flat_one _) (by decide) (by simp only [maxLen]; omega) (by omega) (by have := HS.out; simp; omega) (w1.heap.size + 1) (by simp) ?_; intro g2 cap w2 hown hgrow hat hlt; have hcap : (ns.length : Int) ≤ (cap : Int) := by have := own_cap hown; omega)
  go_ret
  refine ⟨g2, cap, rfl, ?_, (HB.out.alloc HS.out _).grown hgrow (by have := HS.out; simp; omega) (fun k e => (own_lt HO.out e).1)⟩
  simpa [OwnN, flat_append] using hown
theorem take_succ_node {xs : List Node} {i : Nat} (h : i < xs.length) : xs.take (i + 1) = xs.take i ++ [xs.getD i Node.zero] := by
  rw [List.take_add_one, List.getElem?_eq_getElem h, List.getD_eq_getElem?_getD, List.getElem?_eq_getElem h]
  rfl
set_option maxHeartbeats 1000000 in
theorem same_any (A B : Option Addr) (c d : Nat) (xs ys : List Node) (w : World) (hA : Ns w A xs) (hB : Ns w B ys) (hl : xs.length ≤ 2000000000000) (hl2 : ys.length ≤ 2000000000000) :
    Calls Tryz.prog 16 #[.slice A xs.length c, .slice B ys.length d] w fun e w' => e = .returned (.bool (decide (xs = ys))) ∧ Below w.heap.size w w' := by
  by_cases hlen : xs.length = ys.length
  · have HA := Lib.hid hA
    have HB := Lib.hid hB
    have Hlen := Lib.hid hlen
    clear hA hB
    rw [← hlen]
    clear hlen
    go_enter Tryz.func16, Tryz.ntmps16
    go_wp2_with fail
    go_loopw [5] (fun x wr => ∃ i : Nat, i ≤ xs.length ∧ x = .int .i64 i ∧ xs.take i = ys.take i ∧ Below w.heap.size w wr) (fun x _ => xs.length - (intOf x).toNat)
    case atStart => exact ⟨0, by omega, rfl, rfl, Below.refl _ _⟩
    case round =>
      obtain ⟨i, hi, rfl, htake, hBB⟩ := hrel
      have Htake := Lib.hid htake
      have HBB := Lib.hid hBB
      clear htake hBB
      by_cases hlt : i < xs.length
      · obtain ⟨b, o, rfl, hn⟩ := HA.out (by omega)
        obtain ⟨b2, o2, rfl, hn2⟩ := HB.out (by rw [← Hlen.out]; omega)
        have h1 := nodeAt_later HBB.out (hn i hlt)
        have h2 := nodeAt_later HBB.out (hn2 i (by rw [← Hlen.out]; omega))
        obtain ⟨x, hx⟩ : ∃ x, xs.getD i Node.zero = x := ⟨_, rfl⟩
        obtain ⟨y, hy⟩ : ∃ y, ys.getD i Node.zero = y := ⟨_, rfl⟩
        rw [hx] at h1
        rw [hy] at h2
        have Hx := Lib.hid hx
        have Hy := Lib.hid hy
        have hi0 : (0 : Int) ≤ (i : Int) := by omega
        have hi1 : (i : Int) < (xs.length : Int) := by omega
        clear hn hn2 hx hy
        go_wp2_with fail
        go_region_held3 (fun w' => nodeAt w' ⟨b, o + i * 24, none⟩ = some x ∧ nodeAt w' ⟨b2, o2 + i * 24, none⟩ = some y ∧ w' = wr.drew) (first | exact ⟨h1, h2, rfl⟩ | assumption) (fail)
        cases hd : decide (x = y) with
        | true =>
          have hxy : x = y := by simpa using hd
          go_wp2_with fail
          go_round
          case rel => exact ⟨i + 1, by omega, by go_num, by rw [take_succ_node hlt, take_succ_node (by rw [← Hlen.out]; exact hlt), Htake.out, Hx.out, Hy.out, hxy], HBB.out.drew⟩
          case measure => simp [intOf]; omega
        | false =>
          have hxy : x ≠ y := by simpa using hd
          go_wp2_with fail
          go_ret
          refine ⟨?_, HBB.out.drew⟩
          have hne : xs ≠ ys := fun h => hxy (by rw [← Hx.out, ← Hy.out, h])
          simp [hne]
      · have hie : i = xs.length := by omega
        have heq : xs = ys := by
          have h := Htake.out
          rw [List.take_of_length_le (by omega), List.take_of_length_le (by rw [← Hlen.out]; omega)] at h
          exact h
        go_wp2
        go_ret
        exact ⟨by simp [heq], HBB.out⟩
  · have hne : ¬ xs = ys := fun h => hlen (by rw [h])
    have hb : ((xs.length : Int) == (ys.length : Int)) = false := by simp; omega
    have hb2 : ¬ ((xs.length : Int) = (ys.length : Int)) := by omega
    clear hA hB
    go_enter Tryz.func16, Tryz.ntmps16
    go_wp2
    go_ret
    exact ⟨by simp [hne], Below.refl _ _⟩
end Go.Proofs.YtffkaphbgfdpaaaGreatDoor.T
end

section
/- SpoilNodes, KeptNodes, Low. -/
namespace Go.Proofs.YtffkaphbgfdpaaaGreatDoor.T
open Go.RowKit Go.Shelf
set_option linter.unusedVariables false
set_option maxRecDepth 100000
set_option linter.unusedSimpArgs false

/-- A block of the call's own with room for n nodes. -/
def Room (w : World) (g n : Nat) : Prop := ∃ cur, w.heap[g]? = some (.cells cur 37 (0, 0)) ∧ n * 24 ≤ cur.size
theorem Room.there {w : World} {g n i : Nat} (h : Room w g n) (hi : i < n) : w.there g (i * 24) 24 := by
  obtain ⟨cur, h1, h2⟩ := h
  intro j hj
  refine ⟨?_, frozen_of_row w g _ _ _ h1⟩
  rw [cell_of_row w g _ _ _ _ h1, Array.getElem?_eq_getElem (by omega)]
  rfl
theorem Room.lt {w : World} {g n : Nat} (h : Room w g n) : g < w.heap.size := by
  obtain ⟨cur, h1, h2⟩ := h
  exact (Array.getElem?_eq_some_iff.1 h1).1
theorem Room.of_own {w : World} {base n m c g : Nat} {xs : List Value} (h : w.ownsRow base 37 24 (.slice (some ⟨g, 0, none⟩) m c) n xs) : Room w g n := by
  rcases h.2 with ⟨e, _⟩ | ⟨g2, cap, cur, e, h1, h2, h3, h4, h5, _⟩
  · cases e
  · cases e
    exact ⟨cur, h2, by rw [h5]; omega⟩
theorem Room.mono {w : World} {g n m : Nat} (h : Room w g n) (hm : m ≤ n) : Room w g m := by
  obtain ⟨cur, h1, h2⟩ := h
  exact ⟨cur, h1, by omega⟩
theorem room_setCell {w : World} {g n : Nat} (h : Room w g n) (b o : Nat) (v : Value) : Room (w.setCell ⟨b, o, none⟩ v) g n := by
  obtain ⟨cur, h1, h2⟩ := h
  by_cases hb : g = b
  · subst hb
    exact ⟨_, heap_setCell_same w g o cur _ v h1, by simpa using h2⟩
  · exact ⟨cur, by rw [heap_setCell_other w ⟨b, o, none⟩ g v hb]; exact h1, h2⟩
theorem room_setCells {g n b : Nat} : ∀ (cs : List Value) (o : Nat) (w : World), Room w g n → Room (w.setCells b o cs) g n
  | [], _, _, h => h
  | v :: cs, o, w, h => room_setCells cs (o + 1) _ (room_setCell h b o v)
theorem grown_setCell (w : World) (b o : Nat) (v : Value) : w.grownBy (w.setCell ⟨b, o, none⟩ v) (some b) :=
  ⟨rfl, rfl, rfl, by simp, fun i hi hne => heap_setCell_other w _ i v (fun e => hne (by rw [e]))⟩
theorem grown_setCells {b : Nat} : ∀ (cs : List Value) (o : Nat) (w : World), w.grownBy (w.setCells b o cs) (some b)
  | [], _, w => ⟨rfl, rfl, rfl, Nat.le_refl _, fun _ _ _ => rfl⟩
  | v :: cs, o, w => World.grownBy.trans (grown_setCell w b o v) (grown_setCells cs (o + 1) _)
theorem grown_lt {w w' : World} {row : Option Nat} (h : w.grownBy w' row) : w.heap.size ≤ w'.heap.size := h.size
theorem own_cells {w : World} {base n c : Nat} {A : Option Addr} {xs : List Value} (h : w.ownsRow base 37 24 (.slice A n c) n xs) : ∀ b, A = some b → ∀ j u, xs[j]? = some u → w.cell? (b.add j) = some u := by
  intro b e j u hu
  subst e
  rcases h.2 with ⟨e, _⟩ | ⟨g, cap, cur, e, _⟩
  · cases e
  · cases e
    exact World.ownsRow.cells h (g := g) rfl j u hu
theorem nodeSize : (Tryz.prog.info? 37).map (·.size) = some (enc mark).size := by rw [enc_size]; exact nodeInfo
@[go_sem] theorem run_storeNode_at (w : World) (b o : Nat) (x : Node) (ht : w.there b o 24) : (storeNode (.pointer (some ⟨b, o, none⟩)) (.agg (enc x))).run Tryz.prog w = .ok () (w.setCells b o (encL x)) := by
  have := run_storeAt_mid (P := Tryz.prog) w b o 37 (enc x) (by rw [enc_size]; exact ht) (by rw [enc_size]; exact nodeInfo) (enc_oneCell x)
  exact this
set_option maxRecDepth 100000 in
set_option maxHeartbeats 1000000 in
theorem spoil_any (base : Nat) (A : Option Addr) (n c : Nat) (xs : List Value) (w : World) (hown : w.ownsRow base 37 24 (.slice A n c) n xs) (hn : n ≤ 1954687338263) :
    Calls Tryz.prog 27 #[.slice A n c] w fun e w' => e = .returned (.tuple #[]) ∧ w.grownBy w' (Value.slice A n c).ownBlock := by
  obtain ⟨i0, hi0, hz0, hz1, hz2⟩ := info_parts nodeInfos
  have Hz0 := Lib.hid hz0
  have Hz1 := Lib.hid hz1
  have Hz2 := Lib.hid hz2
  clear hz0 hz1 hz2
  have hx : ((w.alloc (.cells (flat [mark]).toArray 37)).heap[w.heap.size]? = some (.cells (flat [mark]).toArray 37 (0, 0))) := heap_alloc_new w _
  have Hx := Lib.hid (flat_news hx)
  clear hx
  have hown1 : (w.alloc (.cells (flat [mark]).toArray 37)).ownsRow base 37 24 (.slice A n c) n xs := own_later hown fun b hb => Below.heap_alloc _ _ _ (own_lt hown hb).2
  obtain ⟨row, hrow⟩ : ∃ r, (Value.slice A n c).ownBlock = r := ⟨_, rfl⟩
  rw [hrow]
  have hAn : A = none ∧ n = 0 ∧ c = 0 ∨ ∃ g, A = some ⟨g, 0, none⟩ := by
    rcases hown.2 with ⟨e, h0⟩ | ⟨g, cap, cur, e, _⟩
    · cases e; exact .inl ⟨rfl, h0, rfl⟩
    · cases e; exact .inr ⟨g, rfl⟩
  have HO := Lib.hid hown
  have HO1 := Lib.hid hown1
  have HR := Lib.hid hrow
  have HAn := Lib.hid hAn
  clear hown hown1 hrow hAn
  go_enter Tryz.func27, Tryz.ntmps27
  go_upto_region 0 with fail
  go_cut [2] (fun s2 W => ∃ g2 cap, s2 = .slice (some ⟨g2, 0, none⟩) (n + 1) cap ∧ Room W g2 (n + 1) ∧ (∀ g, A = some ⟨g, 0, none⟩ → Room W g n) ∧ w.grownBy W row ∧ (w.heap.size ≤ g2 ∨ row = some g2))
  case first =>
    by_cases hr : n + 1 ≤ c
    · obtain ⟨g, rfl⟩ : ∃ g, A = some ⟨g, 0, none⟩ := by
        rcases HAn.out with ⟨_, h1, h2⟩ | h
        · omega
        · exact h
      go_wp2_with (at_builtin; refine wpList_append_own_spare _ rfl _ _ 22 rfl base 37 i0 24 Tryz.underlying22 hi0 Hz1.out g n c xs rfl HO1.out ⟨w.heap.size, 0, none⟩ 1 1 (flat [mark]) rfl rfl Hx.out (flat_one _) hr ?_; intro w2 hown2 hgrow)
      go_meet
      have hrm := Room.of_own hown2
      exact ⟨g, c, rfl, hrm, fun g' e => by cases e; exact hrm.mono (by omega), by rw [← HR.out]; exact World.grownBy.trans (World.grownBy_alloc w _ _) hgrow, .inr (by rw [← HR.out]; rfl)⟩
    · go_wp2_with (at_builtin; refine wpList_append_grows _ rfl _ _ 22 rfl 37 i0 (.agg (enc Node.zero)) 24 72 Tryz.underlying22 hi0 Hz0.out Hz1.out Hz2.out rfl (by decide) A n c xs rfl (fun e => by rcases HAn.out with h | ⟨g, h⟩; exact h.2; rw [e] at h; cases h) HO1.out.1 (own_cells HO1.out) ⟨w.heap.size, 0, none⟩ 1 1 (flat [mark]) rfl rfl Hx.out (flat_one _) (by omega) (by simp only [maxLen]; omega) (by omega) ?_; intro v2 w2 hown2 hgrow)
      obtain ⟨g2, cap2, rfl, hge, hlt2⟩ := hown2.form (by omega)
      go_meet
      refine ⟨g2, cap2, rfl, Room.of_own hown2, fun g' e => ?_, (World.grownBy.trans (World.grownBy_alloc w _ _) hgrow).but row, .inl (by simp at hge; omega)⟩
      subst e
      obtain ⟨cur, q1, q2⟩ := Room.of_own HO1.out
      exact ⟨cur, (hgrow.block g' (Array.getElem?_eq_some_iff.1 q1).1 (by simp)).trans q1, q2⟩
  case rest =>
    obtain ⟨g2, cap, rfl, hr2, hrA, hg, hg2⟩ := hcut
    have Hr2 := Lib.hid hr2
    have HrA := Lib.hid hrA
    have Hg := Lib.hid hg
    have Hg2 := Lib.hid hg2
    clear hr2 hrA hg hg2
    go_wp2_with fail
    go_loopw [3] (fun x wr => ∃ i : Nat, i ≤ n + 1 ∧ x = .int .i64 i ∧ Room wr g2 (n + 1) ∧ (∀ g, A = some ⟨g, 0, none⟩ → Room wr g n) ∧ w.grownBy wr row) (fun x _ => n + 1 - (intOf x).toNat)
    case atStart => exact ⟨0, by omega, rfl, Hr2.out, HrA.out, Hg.out⟩
    case round =>
      obtain ⟨i, hi, rfl, k1, k2, k3⟩ := hrel
      by_cases hlt : i < n + 1
      · have ht := k1.there hlt
        have K1 := Lib.hid k1
        have K2 := Lib.hid k2
        have K3 := Lib.hid k3
        have hi0 : (0 : Int) ≤ (i : Int) := by omega
        have hi1 : (i : Int) < (n : Int) + 1 := by omega
        clear k1 k2 k3
        go_wp2_with fail
        go_round
        case rel => exact ⟨i + 1, by omega, by go_num, room_setCells _ _ _ K1.out, fun g e => room_setCells _ _ _ (K2.out g e), K3.out.andThen (grown_setCells _ _ _) (fun j e => by cases e; exact Hg2.out)⟩
        case measure => simp [intOf]; omega
      · have K2 := Lib.hid k2
        have K3 := Lib.hid k3
        have hi1 : ¬ ((i : Int) < (n : Int) + 1) := by omega
        have hie : i = n + 1 := by omega
        subst hie
        clear k1 k2 k3
        go_wp2_with fail
        go_loopw [4] (fun x wr => ∃ i : Nat, i ≤ n ∧ x = .int .i64 i ∧ (∀ g, A = some ⟨g, 0, none⟩ → Room wr g n) ∧ w.grownBy wr row) (fun x _ => n - (intOf x).toNat)
        case atStart => exact ⟨0, by omega, rfl, K2.out, K3.out⟩
        case round =>
          obtain ⟨i, hi, rfl, k2, k3⟩ := hrel
          by_cases hlt : i < n
          · obtain ⟨g, rfl⟩ : ∃ g, A = some ⟨g, 0, none⟩ := by
              rcases HAn.out with ⟨_, h1, h2⟩ | h
              · omega
              · exact h
            have ht := (k2 g rfl).there hlt
            have K2 := Lib.hid k2
            have K3 := Lib.hid k3
            have hi0 : (0 : Int) ≤ (i : Int) := by omega
            have hi1 : (i : Int) < (n : Int) := by omega
            clear k2 k3
            go_wp2_with fail
            go_round
            case rel => exact ⟨i + 1, by omega, by go_num, fun g' e => room_setCells _ _ _ (K2.out g' e), K3.out.andThen (grown_setCells _ _ _) (fun j e => by cases e; exact .inr (by rw [← HR.out]; rfl))⟩
            case measure => simp [intOf]; omega
          · have K3 := Lib.hid k3
            clear k2 k3
            have hi1 : ¬ ((i : Int) < (n : Int)) := by omega
            go_wp2
            go_end0
            exact ⟨rfl, K3.out⟩
theorem Ns.sub {w : World} {b o : Nat} {l1 l2 l3 : List Node} (h : Ns w (some ⟨b, o, none⟩) (l1 ++ (l2 ++ l3))) : Ns w (some ⟨b, o + l1.length * 24, none⟩) l2 := by
  intro hp
  obtain ⟨b', o', e, hn⟩ := h (by simp; omega)
  cases e
  refine ⟨b, o + l1.length * 24, rfl, fun i hi => ?_⟩
  have := hn (l1.length + i) (by simp; omega)
  rw [show o + (l1.length + i) * 24 = o + l1.length * 24 + i * 24 from by omega] at this
  rw [this]
  congr 1
  simp [List.getD_eq_getElem?_getD, List.getElem?_append_right, List.getElem?_append_left hi]
theorem Ns.take {w : World} {A : Option Addr} {l1 l2 : List Node} (h : Ns w A (l1 ++ l2)) : Ns w A l1 := by
  intro hp
  obtain ⟨b, o, e, hn⟩ := h (by simp; omega)
  refine ⟨b, o, e, fun i hi => ?_⟩
  rw [hn i (by simp; omega)]
  congr 1
  simp [List.getD_eq_getElem?_getD, List.getElem?_append_left hi]
theorem ns_new {w : World} {l : List Node} : Ns (w.alloc (.cells (flat l).toArray 37)) (some ⟨w.heap.size, 0, none⟩) l := by
  intro hp
  refine ⟨w.heap.size, 0, rfl, fun i hi => nodeAt_of fun j u hu => ?_⟩
  have := flat_news (heap_alloc_new w (.cells (flat l).toArray 37)) (i * 24 + j) u (flat_get hi hu)
  rw [add_plain] at this ⊢
  rwa [show 0 + i * 24 + j = 0 + (i * 24 + j) from by omega]
set_option maxHeartbeats 1000000 in
theorem kept_any (base g c : Nat) (A : Option Addr) (d : Nat) (ns : List Node) (w : World) (hown : OwnN w base (.slice (some ⟨g, 0, none⟩) (ns.length + 3) c) (ns ++ [mark, mark, mark])) (hA : Ns w A ns) (hn : ns.length ≤ 1954687338260) :
    Calls Tryz.prog 12 #[.slice (some ⟨g, 0, none⟩) ns.length c, .slice A ns.length d] w fun e w' => e = .returned (.bool true) ∧ w.grownBy w' (some g) := by
  have hcap : (ns.length : Int) + 3 ≤ (c : Int) := by
    have := own_cap hown
    simp at this
    omega
  obtain ⟨A', c', e, hNs⟩ := hown.ns
  have hl3 : (ns ++ [mark, mark, mark]).length = ns.length + 3 := by simp
  rw [hl3] at e
  cases e
  have h1 := hNs.take
  have h2 := Ns.sub (l3 := []) (by simpa using hNs)
  rw [Nat.zero_add] at h2
  have H1 := Lib.hid h1
  have H2 := Lib.hid h2
  have HA := Lib.hid hA
  have HO := Lib.hid hown
  have hc0 : ¬ (c = ns.length + 3 ∧ False) := by simp
  clear hown hNs h1 h2 hA hl3 hc0
  go_enter Tryz.func12, Tryz.ntmps12
  go_wp2_with fail
  refine (same_any _ _ _ _ ns ns _ H1.out HA.out (by omega) (by omega)).mono ?_
  rw [show decide (ns = ns) = true from by simp]
  rintro e w1 ⟨rfl, hB1⟩
  have HB1 := Lib.hid hB1
  clear hB1
  go_wp2_with fail
  have hB2 : Below w.heap.size w (w1.alloc (.cells (flat [mark, mark, mark]).toArray 37)) := HB1.out.alloc HB1.out.size _
  refine (same_any (some ⟨g, ns.length * 24, none⟩) (some ⟨w1.heap.size, 0, none⟩) (c - ns.length) 3 [mark, mark, mark] [mark, mark, mark] _ (H2.out.later hB2) ns_new (by simp) (by simp)).mono ?_
  rw [show decide ([mark, mark, mark] = [mark, mark, mark]) = true from by simp]
  rintro e w2 ⟨rfl, hB3⟩
  have hB4 : Below w.heap.size w w2 := hB2.trans (hB3.mono (by have := hB2.size; omega))
  have HB4 := Lib.hid hB4
  clear hB2 hB3 hB4 HB1
  go_wp2_with fail
  have hO2 : w2.ownsRow base 37 24 (.slice (some ⟨g, 0, none⟩) (ns.length + 3) c) (ns.length + 3) (flat (ns ++ [mark, mark, mark])) := by
    have := own_later HO.out (W := w2) fun b hb => HB4.out.block b (own_lt HO.out hb).2
    simpa using this
  refine (spoil_any base (some ⟨g, 0, none⟩) (ns.length + 3) c _ w2 hO2 (by omega)).mono ?_
  rintro e w3 ⟨rfl, hg⟩
  have HG := Lib.hid hg
  clear hg hO2
  go_wp2_with fail
  go_ret
  refine ⟨rfl, World.grownBy.trans ⟨HB4.out.os, HB4.out.tape, HB4.out.output, HB4.out.size, fun i hi _ => HB4.out.block i hi⟩ HG.out⟩
theorem low_nat (x : Int) : Go.bits .and .i64 x 9223372036854775807 = (((BitVec.ofInt 64 x).toNat % 2 ^ 63 : Nat) : Int) := by
  have h : (BitVec.ofInt 64 x &&& BitVec.ofInt 64 9223372036854775807).toNat = (BitVec.ofInt 64 x).toNat % 2 ^ 63 := by
    rw [BitVec.toNat_and, show (BitVec.ofInt 64 9223372036854775807).toNat = 2 ^ 63 - 1 from by decide, Nat.and_two_pow_sub_one_eq_mod]
  have h2 := Nat.mod_lt (BitVec.ofInt 64 x).toNat (show 0 < 2 ^ 63 by decide)
  show IntKind.wrap .i64 ((BitVec.ofInt 64 x &&& BitVec.ofInt 64 9223372036854775807).toNat : Int) = _
  rw [h]
  exact IntWalk.i64_in _ (by omega)
theorem low_nonneg (x : Int) : 0 ≤ Go.bits .and .i64 x 9223372036854775807 := by
  rw [low_nat]
  exact Int.natCast_nonneg _
end Go.Proofs.YtffkaphbgfdpaaaGreatDoor.T
end

section
/- types.through: a list of nodes, gone through. -/
namespace Go.Proofs.YtffkaphbgfdpaaaGreatDoor.T
open Go.RowKit Go.Shelf
set_option linter.unusedVariables false
set_option maxRecDepth 100000
set_option linter.unusedSimpArgs false

@[go_sem] theorem run_storeNode_over (w : World) (y x : Node) : (storeNode (.pointer (some ⟨w.heap.size, 0, none⟩)) (.agg (enc x))).run Tryz.prog (w.alloc (.cells (enc y) 37)) = .ok () (w.alloc (.cells (enc x) 37)) := run_storeNode_new w _ _ (enc_size y)
set_option maxRecDepth 100000 in
set_option maxHeartbeats 1600000 in
theorem through_any (A : Option Addr) (c : Nat) (ns : List Node) (w : World) (hA : Ns w A ns) (hok : NodesOk ns) :
    Calls Tryz.prog 32 #[.slice A ns.length c] w fun e w' => ∃ r hi kb, e = .returned (.tuple #[.pointer (some ⟨kb, 0, none⟩), .int .i64 (runT ns 0 [] []).1, .int .i64 (runT ns 0 [] []).2.1]) ∧ Below w.heap.size w w' ∧ w.heap.size ≤ r ∧ ((runT ns 0 [] []).2.1 = 0 → WalkAt r hi kb (runT ns 0 [] []).2.2.1 (runT ns 0 [] []).2.2.2 w') := by
  have HA := Lib.hid hA
  have HO := Lib.hid hok
  have hnl := hok.len
  clear hA hok
  go_enter Tryz.func32, Tryz.ntmps32
  go_wp2_with fail
  refine (table_any _).mono ?_
  rintro e w1 ⟨r, rfl, hT⟩
  have hw := walk_start hT
  have hB1 : Below w.heap.size w w1 := by rw [hT.base]; exact hT.below
  have HW := Lib.hid hw
  have hr := hT.base
  have HB1 := Lib.hid hB1
  have HT := Lib.hid hT
  clear hw hB1 hT
  go_wp2_with fail
  obtain ⟨kb, hkb⟩ : ∃ k, w1.heap.size = k := ⟨_, rfl⟩
  have hW1 := HW.out
  rw [hkb] at hW1
  rw [hkb]
  have Hkb := Lib.hid hkb
  have HW1 := Lib.hid hW1
  clear hkb hW1 HW
  go_loopw [14] (fun x wr => ∃ (i : Nat) (st : List Int) (ps : List Part), i ≤ ns.length ∧ x = .int .i64 i ∧ st.length = i ∧ runT (ns.drop i) i st ps = runT ns 0 [] [] ∧ Below w.heap.size w wr ∧ WalkAt r kb kb st ps wr) (fun x _ => ns.length - (intOf x).toNat)
  case atStart => exact ⟨0, [], [], by omega, rfl, rfl, rfl, HB1.out.alloc HB1.out.size _, HW1.out⟩
  case round =>
    obtain ⟨i, st, ps, hi, rfl, hst, hrun, hB, hW⟩ := hrel
    have Hst := Lib.hid hst
    have Hrun := Lib.hid hrun
    have HB := Lib.hid hB
    have HW2 := Lib.hid hW
    clear hrun hB hW hst
    by_cases hlt : i < ns.length
    · obtain ⟨b, o, rfl, hn⟩ := (HA.out.later HB.out) (by omega)
      have h1 := hn i hlt
      have hmem := getD_mem hlt
      have hdrop : ns.drop i = ns.getD i Node.zero :: ns.drop (i + 1) := by
        rw [List.drop_eq_getElem_cons hlt, List.getD_eq_getElem?_getD, List.getElem?_eq_getElem hlt]
        rfl
      obtain ⟨n, hnn⟩ : ∃ n, ns.getD i Node.zero = n := ⟨_, rfl⟩
      rw [hnn] at h1 hmem hdrop
      have hi0 : (0 : Int) ≤ (i : Int) := by omega
      have hi1 : (i : Int) < (ns.length : Int) := by omega
      have Hdrop := Lib.hid hdrop
      have Hmem := Lib.hid hmem
      clear hn hnn hdrop hmem
      go_wp2_with fail
      refine (add_any r kb kb n st ps _ (HW2.out.later ((Below.refl _ _).alloc (Nat.le_refl _) _)) (by have := Hst.out; omega) (HO.out.bytes n Hmem.out) (HO.out.u32 n Hmem.out)).mono ?_
      rintro e w3 ⟨rfl, hB3, hW3⟩
      have hB4 : Below w.heap.size w w3 := (HB.out.alloc HB.out.size _).trans (hB3.mono (by have := HB1.out.size; have := Hkb.out; omega))
      have HB4 := Lib.hid hB4
      have HW4 := Lib.hid hW3
      have hrun2 := Hrun.out
      rw [Hdrop.out] at hrun2
      simp only [runT] at hrun2
      obtain ⟨code, hcode⟩ : ∃ x, (stepT n st ps).1 = x := ⟨_, rfl⟩
      rw [hcode] at hrun2
      rw [hcode]
      have Hcode := Lib.hid hcode
      clear hB3 hW3 hB4 hcode
      by_cases hc0 : code = 0
      · subst hc0
        simp only [ne_eq, not_true, if_false] at hrun2
        have Hrun2 := Lib.hid hrun2
        clear hrun2
        go_wp2_with fail
        go_round
        case rel => exact ⟨i + 1, (stepT n st ps).2.1, (stepT n st ps).2.2, by omega, by go_num, by rw [stepT_len Hcode.out, Hst.out], by have := Hrun2.out; simpa using this, HB4.out, HW4.out Hcode.out⟩
        case measure => simp [intOf]; omega
      · rw [if_pos hc0] at hrun2
        have hcb : (code == 0) = false := by simp [hc0]
        have Hrun2 := Lib.hid hrun2
        clear hrun2
        go_wp2_with fail
        go_ret3
        refine ⟨r, kb, kb, ?_, HB4.out, by omega, ?_⟩
        · rw [← Hrun2.out]
          rfl
        · rw [← Hrun2.out]
          exact fun h => absurd h hc0
    · have Hie := Lib.hid (show i = ns.length by omega)
      have hrun2 := Hrun.out
      rw [List.drop_of_length_le (by omega)] at hrun2
      simp only [runT] at hrun2
      obtain ⟨vs, vp, hR⟩ := HW2.out.row
      obtain ⟨sA, sc, rfl, -⟩ := hR.st.form
      have k1 : wr.cell? ⟨kb, 1, none⟩ = some (.slice sA st.length sc) := by rw [cell_of_row wr kb 1 _ _ _ hR.row]; rfl
      have hown := Lib.hid hR.st
      have hi1 : ¬ (i : Int) < (ns.length : Int) := by omega
      have Hrun2 := Lib.hid hrun2
      clear hrun2 hR
      go_wp2_with fail
      refine (one_any _ (kb + 1) st _ hown.out (by have := Hst.out; omega)).mono ?_
      rintro e w3 ⟨rfl, rfl⟩
      cases ho : oneB st with
      | true =>
        have ho2 : decide (0 < st.length ∧ st.getD (st.length - 1) 0 = 0) = true := ho
        rw [ho2]
        go_wp2_with fail
        go_ret3
        have hh := Hrun2.out
        rw [ho, if_pos rfl] at hh
        refine ⟨r, kb, kb, ?_, HB.out, by omega, ?_⟩
        · rw [← hh]
          rfl
        · rw [← hh]
          exact fun _ => HW2.out
      | false =>
        have ho2 : decide (0 < st.length ∧ st.getD (st.length - 1) 0 = 0) = false := ho
        rw [ho2]
        go_wp2_with fail
        go_ret3
        have hh := Hrun2.out
        rw [ho, if_neg (by simp)] at hh
        refine ⟨r, kb, kb, ?_, HB.out, by omega, ?_⟩
        · rw [← hh, Hie.out]
          rfl
        · rw [← hh]
          exact fun h => by cases h
end Go.Proofs.YtffkaphbgfdpaaaGreatDoor.T
end

section
/- types.Check, types.Constant, types.Weight. -/
namespace Go.Proofs.YtffkaphbgfdpaaaGreatDoor.T
open Go.RowKit Go.Shelf
set_option linter.unusedVariables false
set_option maxRecDepth 100000
set_option linter.unusedSimpArgs false

/-- The weights of a list, one behind the other: where they are more than may be. -/
def weighT : List Node → Int → Int → Int × Int
  | [], _, _ => (0, 0)
  | n :: ns, at_, s => if s + weightI n.kind n > 3000 then (at_, 126) else weighT ns (at_ + 1) (s + weightI n.kind n)
def checkT (ns : List Node) : Int × Int :=
  if (runT ns 0 [] []).2.1 ≠ 0 then ((runT ns 0 [] []).1, (runT ns 0 [] []).2.1)
  else if ((runT ns 0 [] []).2.2.2.getD (ns.length - 1) Part.zero).truth = false then ((ns.length : Int) - 1, 121)
  else weighT ns 0 0
def constT (ns : List Node) : Int × Bool :=
  if (runT ns 0 [] []).2.1 ≠ 0 then (0, false)
  else if ((runT ns 0 [] []).2.2.2.getD (ns.length - 1) Part.zero).constant = false then (0, false)
  else (((runT ns 0 [] []).2.2.2.getD (ns.length - 1) Part.zero).value, true)
theorem byI_range (four six : Int) (h4 : 0 ≤ four ∧ four ≤ 80) (h6 : 0 ≤ six ∧ six ≤ 80) (n : Node) : 0 ≤ byI four six n ∧ byI four six n ≤ 80 := by
  unfold byI
  split <;> assumption
@[go_sem] theorem run_field4 (w : World) (a b c d : Value) (f : Fn) (cs : Array Value) : (Instr.field 70 (.agg #[a, b, c, d, .func f #[] cs]) 4).run Tryz.prog w = .ok (.func f #[] cs) w := by
  simp [Instr.field, go_sem, asAgg]
theorem range_ite {c : Prop} [Decidable c] {a b : Int} (h1 : 0 ≤ a ∧ a ≤ 80) (h2 : 0 ≤ b ∧ b ≤ 80) : 0 ≤ (if c then a else b) ∧ (if c then a else b) ≤ 80 := by
  split <;> assumption
theorem weightI_range (k : Int) (n : Node) : 0 ≤ weightI k n ∧ weightI k n ≤ 80 := by
  unfold weightI
  iterate 13 (refine range_ite (by decide) ?_)
  exact range_ite (byI_range _ _ (by decide) (by decide) n) (range_ite (byI_range _ _ (by decide) (by decide) n) (range_ite (by decide) (by decide)))
theorem stepT_kind {n : Node} {st : List Int} {ps : List Part} (h : (stepT n st ps).1 = 0) : ∃ a, arityK n.kind = some a := by
  unfold stepT at h
  cases ha : arityK n.kind with
  | none => rw [ha] at h; cases h
  | some a => exact ⟨a, rfl⟩
theorem runT_ok : ∀ (ns : List Node) (at_ : Int) (st : List Int) (ps : List Part), (runT ns at_ st ps).2.1 = 0 →
    (∀ n ∈ ns, ∃ a, arityK n.kind = some a) ∧ (runT ns at_ st ps).2.2.1.length = st.length + ns.length ∧ 0 < st.length + ns.length
  | [], at_, st, ps, h => by
    simp only [runT] at h ⊢
    cases ho : oneB st with
    | false => rw [ho] at h; cases h
    | true =>
      rw [if_pos rfl]
      have : 0 < st.length := by
        have := of_decide_eq_true ho
        exact this.1
      exact ⟨(fun n hn => by cases hn), rfl, by simpa using this⟩
  | n :: ns, at_, st, ps, h => by
    simp only [runT] at h ⊢
    by_cases hc : (stepT n st ps).1 = 0
    · rw [if_neg (by simp [hc])] at h ⊢
      obtain ⟨h1, h2, h3⟩ := runT_ok ns _ _ _ h
      refine ⟨fun m hm => ?_, ?_, by rw [List.length_cons]; omega⟩
      · rcases List.mem_cons.1 hm with rfl | hm
        · exact stepT_kind hc
        · exact h1 m hm
      · rw [h2, stepT_len hc, List.length_cons]
        omega
    · rw [if_pos hc] at h
      exact absurd h hc
theorem TabAt.looks {r hi : Nat} {w : World} (h : TabAt r hi w) {k : Int} (h0 : 1 ≤ k) (h1 : k ≤ 16) :
    ∃ fu cu ff cf fg cg, FnI (r + 1) hi (.func (.func fg) #[] cg) (weightI k) w ∧ ∀ W, Below w.heap.size w W → ∀ b : Bool, (Instr.lookup 64 (.map (some r)) (.int .i64 k) b).run Tryz.prog W = .ok (if b then .tuple #[.agg #[.bool (truthK k), .bool (wantsK k), .func (.func fu) #[] cu, .func (.func ff) #[] cf, .func (.func fg) #[] cg], .bool true] else .agg #[.bool (truthK k), .bool (wantsK k), .func (.func fu) #[] cu, .func (.func ff) #[] cf, .func (.func fg) #[] cg]) W := by
  have hlt := h.lt
  have hsz := h.size
  obtain ⟨es, e1, e2, e3⟩ := h.out
  obtain ⟨v, hv⟩ := lookE_some e2 h0 h1
  have hm := e3 _ (lookE_mem hv)
  obtain ⟨u, f, g, he, q1, q2, q3⟩ := hm.out
  simp only at he
  subst he
  obtain ⟨fu, cu, rfl, -⟩ := q1
  obtain ⟨ff, cf, rfl, -⟩ := q2
  obtain ⟨fg, cg, rfl, z⟩ := q3
  refine ⟨fu, cu, ff, cf, fg, cg, ⟨fg, cg, rfl, z⟩, fun W hb b => ?_⟩
  have := run_lookup_int (P := Tryz.prog) W _ _ _ Tryz.underlying64 Tryz.underlying3 _ (fun W => Tryz.zeroValue70 W) r es (e1.congr (hb.block r (by omega))) k b
  rw [hv] at this
  exact this
theorem startW {w : World} {kb r : Nat} {n : Node} {res : Value} (hL : ∀ W, Below w.heap.size w W → (Instr.lookup 64 (.map (some r)) (.int .i64 n.kind) false).run Tryz.prog W = .ok res W) (k0 : w.cell? ⟨kb, 0, none⟩ = some (.map (some r))) :
    (w.alloc (.cells (enc n) 37)).drew.cell? ⟨kb, 0, none⟩ = some (.map (some r)) ∧ (w.alloc (.cells (enc n) 37)).drew.cell? ⟨w.heap.size, 0, none⟩ = some (.int .i64 n.kind) ∧ nodeAt (w.alloc (.cells (enc n) 37)).drew ⟨w.heap.size, 0, none⟩ = some n ∧ (Instr.lookup 64 (.map (some r)) (.int .i64 n.kind) false).run Tryz.prog (w.alloc (.cells (enc n) 37)).drew = .ok res (w.alloc (.cells (enc n) 37)).drew ∧ Below w.heap.size w (w.alloc (.cells (enc n) 37)).drew := by
  have hb : Below w.heap.size w (w.alloc (.cells (enc n) 37)).drew := ((Below.refl _ w).alloc (Nat.le_refl _) _).drew
  have hn : (w.alloc (.cells (enc n) 37)).drew.heap[w.heap.size]? = some (.cells (enc n) 37 (0, 0)) := heap_alloc_new w _
  exact ⟨(hb.cell (World.block_lt_of_cell? w _ k0)).trans k0, by rw [cell_of_row _ _ 0 _ _ _ hn]; rfl, nodeAt_row hn, hL _ hb, hb⟩
theorem keepW {w V V' : World} {kb r b : Nat} {n : Node} {res : Value} (hL : ∀ W, Below w.heap.size w W → (Instr.lookup 64 (.map (some r)) (.int .i64 n.kind) false).run Tryz.prog W = .ok res W)
    (h : V.cell? ⟨kb, 0, none⟩ = some (.map (some r)) ∧ V.cell? ⟨b, 0, none⟩ = some (.int .i64 n.kind) ∧ nodeAt V ⟨b, 0, none⟩ = some n ∧ (Instr.lookup 64 (.map (some r)) (.int .i64 n.kind) false).run Tryz.prog V = .ok res V ∧ Below w.heap.size w V)
    (hb : Below V.heap.size V V') :
    V'.cell? ⟨kb, 0, none⟩ = some (.map (some r)) ∧ V'.cell? ⟨b, 0, none⟩ = some (.int .i64 n.kind) ∧ nodeAt V' ⟨b, 0, none⟩ = some n ∧ (Instr.lookup 64 (.map (some r)) (.int .i64 n.kind) false).run Tryz.prog V' = .ok res V' ∧ Below w.heap.size w V' := by
  obtain ⟨h1, h2, h3, h4, h5⟩ := h
  have h6 : Below w.heap.size w V' := h5.trans (hb.mono h5.size)
  exact ⟨(hb.cell (World.block_lt_of_cell? V _ h1)).trans h1, (hb.cell (World.block_lt_of_cell? V _ h2)).trans h2, nodeAt_later hb h3, hL _ h6, h6⟩
theorem last5 {a b c d e : Prop} (H : a ∧ b ∧ c ∧ d ∧ e) : e := H.2.2.2.2
set_option maxRecDepth 100000 in
set_option maxHeartbeats 1600000 in
theorem check_any (A : Option Addr) (c : Nat) (ns : List Node) (w : World) (hA : Ns w A ns) (hok : NodesOk ns) :
    Calls Tryz.prog 19 #[.slice A ns.length c] w fun e w' => e = .returned (.tuple #[.int .i64 (checkT ns).1, .int .i64 (checkT ns).2]) ∧ Below w.heap.size w w' := by
  have HA := Lib.hid hA
  have HO := Lib.hid hok
  have hnl := hok.len
  clear hA hok
  go_enter Tryz.func19, Tryz.ntmps19
  go_wp2_with fail
  refine (through_any A c ns _ HA.out HO.out).mono ?_
  rintro e w1 ⟨r, hi, kb, rfl, hB, hr, hW⟩
  have HB := Lib.hid hB
  have HW := Lib.hid hW
  have Hck := Lib.hid (show checkT ns = checkT ns from rfl)
  obtain ⟨code, hcode⟩ : ∃ x, (runT ns 0 [] []).2.1 = x := ⟨_, rfl⟩
  obtain ⟨place, hplace⟩ : ∃ x, (runT ns 0 [] []).1 = x := ⟨_, rfl⟩
  rw [hcode, hplace]
  have Hcode := Lib.hid hcode
  have Hplace := Lib.hid hplace
  clear hB hW hcode hplace
  by_cases hc0 : code = 0
  · subst hc0
    have hW1 := HW.out Hcode.out
    obtain ⟨hk, hlen, hpos⟩ := runT_ok ns 0 [] [] Hcode.out
    rw [List.length_nil, Nat.zero_add] at hlen hpos
    obtain ⟨vs, vp, hR⟩ := hW1.row
    obtain ⟨B, cp, rfl, hBp⟩ := ownP_form hR.ps
    have hpl := hW1.len
    rw [hlen] at hpl
    obtain ⟨gp, rfl, hgp, hcell⟩ := hBp (by omega)
    have d0 := hcell (ns.length - 1) (by omega) 0 _ rfl
    rw [Nat.add_zero] at d0
    have k2 : w1.cell? ⟨kb, 2, none⟩ = some (.slice (some ⟨gp, 0, none⟩) ns.length cp) := by rw [cell_of_row w1 kb 2 _ _ _ hR.row, ← hpl]; rfl
    obtain ⟨P, hP⟩ : ∃ P, (runT ns 0 [] []).2.2.2.getD (ns.length - 1) Part.zero = P := ⟨_, rfl⟩
    rw [hP] at d0
    have HP := Lib.hid hP
    have HW1 := Lib.hid hW1
    have Hk := Lib.hid hk
    have i0 : (0 : Int) ≤ (ns.length : Int) - 1 := by omega
    have i1 : (ns.length : Int) - 1 < (ns.length : Int) := by omega
    clear hW1 hk hlen hR hBp hpl hcell hP HW
    obtain ⟨tr, htr⟩ : ∃ b, P.truth = b := ⟨_, rfl⟩
    rw [htr] at d0
    have Htr := Lib.hid htr
    clear htr
    cases tr with
    | false =>
      have hres : checkT ns = ((ns.length : Int) - 1, 121) := by
        unfold checkT
        rw [if_neg (by rw [Hcode.out]; simp), HP.out, if_pos Htr.out]
      have Hres := Lib.hid hres
      clear hres
      go_wp2_with fail
      go_ret2
      rw [Hres.out]
      exact ⟨rfl, HB.out⟩
    | true =>
      have hres : checkT ns = weighT ns 0 0 := by
        unfold checkT
        rw [if_neg (by rw [Hcode.out]; simp), HP.out, if_neg (by rw [Htr.out]; simp)]
      have Hres := Lib.hid hres
      clear hres
      go_wp2_with fail
      go_loopw [36, 7] (fun x y wr => ∃ (i : Nat) (s : Int), i ≤ ns.length ∧ x = .int .i64 i ∧ y = .int .i64 s ∧ 0 ≤ s ∧ s ≤ 3000 ∧ weighT (ns.drop i) i s = weighT ns 0 0 ∧ Below w.heap.size w wr ∧ WalkAt r hi kb (runT ns 0 [] []).2.2.1 (runT ns 0 [] []).2.2.2 wr) (fun x _ _ => ns.length - (intOf x).toNat)
      case atStart => exact ⟨0, 0, by omega, rfl, rfl, by omega, by omega, rfl, HB.out, HW1.out⟩
      case round =>
        obtain ⟨i, s, hi', rfl, rfl, hs0, hs1, hrun, hB2, hW2⟩ := hrel
        have Hrun := Lib.hid hrun
        have HB2 := Lib.hid hB2
        have HW2 := Lib.hid hW2
        clear hrun hB2 hW2
        by_cases hlt : i < ns.length
        · obtain ⟨b, o, rfl, hn⟩ := (HA.out.later HB2.out) (by omega)
          have h1 := hn i hlt
          have hmem := getD_mem hlt
          have hdrop : ns.drop i = ns.getD i Node.zero :: ns.drop (i + 1) := by
            rw [List.drop_eq_getElem_cons hlt, List.getD_eq_getElem?_getD, List.getElem?_eq_getElem hlt]
            rfl
          obtain ⟨n, hnn⟩ : ∃ n, ns.getD i Node.zero = n := ⟨_, rfl⟩
          rw [hnn] at h1 hmem hdrop
          obtain ⟨ar, har⟩ := Hk.out n hmem
          have hkr := arityK_range har
          obtain ⟨fu, cu, ff, cf, fg, cg, hg, hL⟩ := HW2.out.tab.looks hkr.1 hkr.2.1
          obtain ⟨fg1, cg1, hgq, hge, hgc⟩ := hg
          cases hgq
          obtain ⟨tr, htr⟩ : ∃ b, truthK n.kind = b := ⟨_, rfl⟩
          obtain ⟨wa, hwa⟩ : ∃ b, wantsK n.kind = b := ⟨_, rfl⟩
          have hL2 := fun W hb => hL W hb false
          rw [htr, hwa] at hL2
          simp only [Bool.false_eq_true, if_false] at hL2
          obtain ⟨vs2, vp2, hR2⟩ := HW2.out.row
          have k0 : wr.cell? ⟨kb, 0, none⟩ = some (.map (some r)) := by rw [cell_of_row wr kb 0 _ _ _ hR2.row]; rfl
          have hsz2 := HW2.out.tab.size
          have hwr := weightI_range n.kind n
          obtain ⟨wt, hwt⟩ : ∃ x, weightI n.kind n = x := ⟨_, rfl⟩
          have HGC := Lib.hid hgc
          have Hwt := Lib.hid hwt
          have Hge := Lib.hid hge
          have HL2 := Lib.hid hL2
          rw [hwt] at hwr
          have i2 : (0 : Int) ≤ (i : Int) := by omega
          have i3 : (i : Int) < (ns.length : Int) := by omega
          have Hdrop := Lib.hid hdrop
          clear hn hnn hdrop hmem har hkr hL htr hwa hR2 hgc hwt hge d0 k2 i0 i1
          have he := Hge.out
          unfold Enters at he
          go_upto_region 10 with fail
          go_region_held3 (fun w' => w'.cell? ⟨kb, 0, none⟩ = some (.map (some r)) ∧ w'.cell? ⟨wr.heap.size, 0, none⟩ = some (.int .i64 n.kind) ∧ nodeAt w' ⟨wr.heap.size, 0, none⟩ = some n ∧ (Instr.lookup 64 (.map (some r)) (.int .i64 n.kind) false).run Tryz.prog w' = .ok (.agg #[.bool tr, .bool wa, .func (.func fu) #[] cu, .func (.func ff) #[] cf, .func (.func fg) #[] cg]) w' ∧ Below wr.heap.size wr w')
            (first | exact startW hL2 k0 | exact keepW hL2 (by assumption) (by assumption) | assumption)
            ((go_at_fn fg; refine (HGC.out _ (AgreeOn.below (last5 (by assumption)) hsz2 hsz2) n).mono ?_; rw [Hwt.out]; rintro e w4 ⟨rfl, hB4⟩))
          rename_i hH
          have hB5 : Below wr.heap.size wr w4 := last5 hH
          have HB5 := Lib.hid hB5
          clear hH hB5
          rw [show IntKind.i64.wrap (s + wt) = s + wt from IntWalk.i64_in _ (by omega)]
          have hrun2 := Hrun.out
          rw [Hdrop.out] at hrun2
          simp only [weighT, Hwt.out] at hrun2
          by_cases hmax : s + wt > 3000
          · rw [if_pos hmax] at hrun2
            have Hrun2 := Lib.hid hrun2
            have hmax2 : 3000 < s + wt := hmax
            clear hrun2
            go_wp2_with fail
            go_ret2
            rw [Hres.out, ← Hrun2.out]
            exact ⟨rfl, HB2.out.trans (HB5.out.mono HB2.out.size)⟩
          · rw [if_neg hmax] at hrun2
            have Hrun2 := Lib.hid hrun2
            have hmax2 : s + wt ≤ 3000 := by omega
            clear hrun2
            go_wp2_with fail
            go_round
            case rel => exact ⟨i + 1, s + wt, by omega, by go_num, rfl, by omega, by omega, by have := Hrun2.out; simpa using this, HB2.out.trans (HB5.out.mono HB2.out.size), HW2.out.later HB5.out⟩
            case measure => simp [intOf]; omega
        · have Hie := Lib.hid (show i = ns.length by omega)
          have hi1 : ¬ (i : Int) < (ns.length : Int) := by omega
          have hrun2 := Hrun.out
          rw [List.drop_of_length_le (by omega)] at hrun2
          have Hrun2 := Lib.hid hrun2
          clear hrun2
          go_wp2_with fail
          go_ret2
          rw [Hres.out, ← Hrun2.out]
          exact ⟨rfl, HB2.out⟩
  · have hcb : (code == 0) = false := by simp [hc0]
    have hres : checkT ns = (place, code) := by
      unfold checkT
      rw [Hcode.out, Hplace.out, if_pos hc0]
    have Hres := Lib.hid hres
    clear hres
    go_wp2_with fail
    go_ret2
    rw [Hres.out]
    exact ⟨rfl, HB.out⟩
end Go.Proofs.YtffkaphbgfdpaaaGreatDoor.T
end

section
/- types.Constant, types.Weight. -/
namespace Go.Proofs.YtffkaphbgfdpaaaGreatDoor.T
open Go.RowKit Go.Shelf
set_option linter.unusedVariables false
set_option maxRecDepth 100000
set_option linter.unusedSimpArgs false

/-- The weight of a list. -/
def weightT (ns : List Node) : Int := (ns.map fun n => weightI n.kind n).sum
theorem weightI_none {k : Int} (h : k < 1 ∨ 16 < k) (n : Node) : weightI k n = 0 := by
  unfold weightI
  repeat rw [if_neg (by omega)]
theorem weightT_range (ns : List Node) : 0 ≤ weightT ns ∧ weightT ns ≤ 80 * ns.length := by
  unfold weightT
  induction ns with
  | nil => exact ⟨by decide, by decide⟩
  | cons n ns ih =>
    have := weightI_range n.kind n
    rw [List.map_cons, List.sum_cons, List.length_cons]
    omega
end Go.Proofs.YtffkaphbgfdpaaaGreatDoor.T
end

section
/- What is wrong with a node is told by the nodes up to it: plain. -/
namespace Go.Proofs.YtffkaphbgfdpaaaGreatDoor.T
open Go.RowKit Go.Shelf
set_option linter.unusedVariables false
set_option maxRecDepth 100000
set_option linter.unusedSimpArgs false

theorem made_truth {n : Node} {t wa : Bool} {kids : List Part} (h : (madeL n t wa kids).2 = 0) : (madeL n t wa kids).1.truth = t := by
  unfold madeL at h ⊢
  by_cases h0 : kidsBad wa kids = true
  · rw [if_pos h0] at h
    cases wa <;> cases h
  · rw [if_neg h0]
    split
    · rfl
    · split
      · rfl
      · split
        · split
          · rfl
          · split <;> rfl
        · rfl
/-- A node's step without an error. -/
theorem stepT_ok {n : Node} {st : List Int} {ps : List Part} (h : (stepT n st ps).1 = 0) :
    ∃ a st2, arityK n.kind = some a ∧ addL st a = some st2 ∧ unusedB n.kind n = true ∧ (madeL n (truthK n.kind) (wantsK n.kind) (kidsL a st ps)).2 = 0 ∧ fitsB n.kind n = true ∧ (n.kind = 15 → wholeB n = true) ∧
      stepT n st ps = (0, st2, ps ++ [(madeL n (truthK n.kind) (wantsK n.kind) (kidsL a st ps)).1]) := by
  have h' := h
  unfold stepT at h
  cases ha : arityK n.kind with
  | none => rw [ha] at h; cases h
  | some a =>
    simp only [ha] at h
    cases hb : addL st a with
    | none => rw [hb] at h; cases h
    | some st2 =>
      simp only [hb] at h
      by_cases h1 : unusedB n.kind n = false
      · rw [if_pos h1] at h; cases h
      · rw [if_neg h1] at h
        by_cases h2 : (madeL n (truthK n.kind) (wantsK n.kind) (kidsL a st ps)).2 ≠ 0
        · rw [if_pos h2] at h; exact absurd h h2
        · rw [if_neg h2] at h
          by_cases h3 : fitsB n.kind n = false
          · rw [if_pos h3] at h; cases h
          · rw [if_neg h3] at h
            by_cases h4 : n.kind = 15 ∧ wholeB n = false
            · rw [if_pos h4] at h; cases h
            · refine ⟨a, st2, rfl, hb, by simpa using h1, by simpa using h2, by simpa using h3, ?_, ?_⟩
              · intro hk
                cases hw : wholeB n with
                | true => rfl
                | false => exact absurd ⟨hk, hw⟩ h4
              · unfold stepT
                simp only [ha, hb]
                rw [if_neg h1, if_neg h2, if_neg h3, if_neg h4]
theorem runT_cons (n : Node) (ns : List Node) (i : Int) (st : List Int) (ps : List Part) : runT (n :: ns) i st ps = if (stepT n st ps).1 ≠ 0 then (i, (stepT n st ps).1, st, ps) else runT ns (i + 1) (stepT n st ps).2.1 (stepT n st ps).2.2 := rfl
/-- An error ahead of the end is told by the nodes up to it. -/
theorem runT_err : ∀ (ns : List Node) (i : Int) (st : List Int) (ps : List Part), (runT ns i st ps).2.1 ≠ 0 → (runT ns i st ps).1 < i + ns.length →
    ∃ j : Nat, j < ns.length ∧ (runT ns i st ps).1 = i + j ∧ ∀ more, runT (ns.take (j + 1) ++ more) i st ps = runT ns i st ps
  | [], i, st, ps, h, hp => by
    exfalso
    unfold runT at h hp
    by_cases ho : oneB st = true
    · rw [if_pos ho] at h; exact h rfl
    · rw [if_neg ho] at hp; simp at hp
  | n :: ns, i, st, ps, h, hp => by
    rw [runT_cons] at h hp
    by_cases hs : (stepT n st ps).1 ≠ 0
    · refine ⟨0, by simp, ?_, fun more => ?_⟩
      · rw [runT_cons, if_pos hs]; simp
      · show runT (n :: more) i st ps = _
        rw [runT_cons, runT_cons, if_pos hs, if_pos hs]
    · rw [if_neg hs] at h hp
      obtain ⟨j, hj, hpl, hm⟩ := runT_err ns (i + 1) _ _ h (by rw [List.length_cons] at hp; omega)
      refine ⟨j + 1, by simpa using hj, ?_, fun more => ?_⟩
      · rw [runT_cons, if_neg hs, hpl]; omega
      · show runT (n :: (ns.take (j + 1) ++ more)) i st ps = _
        rw [runT_cons, runT_cons, if_neg hs, if_neg hs, hm more]
/-- Behind a run without an error each part's truth is its node's. -/
theorem runT_truth : ∀ (ns : List Node) (i : Int) (st : List Int) (ps : List Part), (runT ns i st ps).2.1 = 0 →
    (runT ns i st ps).2.2.2.map Part.truth = ps.map Part.truth ++ ns.map fun n => truthK n.kind
  | [], i, st, ps, h => by
    unfold runT
    split <;> simp
  | n :: ns, i, st, ps, h => by
    rw [runT_cons] at h ⊢
    by_cases hs : (stepT n st ps).1 ≠ 0
    · rw [if_pos hs] at h; exact absurd h hs
    · rw [if_neg hs] at h ⊢
      rw [runT_truth ns _ _ _ h]
      obtain ⟨a, st2, _, _, _, hm, _, _, e⟩ := stepT_ok (by simpa using hs)
      rw [e]
      simp [made_truth hm]
theorem root_truth {ns : List Node} (h : (runT ns 0 [] []).2.1 = 0) (hp : 0 < ns.length) : ((runT ns 0 [] []).2.2.2.getD (ns.length - 1) Part.zero).truth = truthK (ns.getD (ns.length - 1) Node.zero).kind := by
  have ht := runT_truth ns 0 [] [] h
  rw [List.map_nil, List.nil_append] at ht
  have hl : (runT ns 0 [] []).2.2.2.length = ns.length := by
    have := congrArg List.length ht
    simpa using this
  have := congrArg (fun l => l.getD (ns.length - 1) false) ht
  simp only [List.getD_eq_getElem?_getD, List.getElem?_map] at this ⊢
  rw [List.getElem?_eq_getElem (by omega)] at this ⊢
  rw [List.getElem?_eq_getElem (by omega)] at this ⊢
  simpa using this
theorem weighT_code : ∀ (ns : List Node) (i s : Int), (weighT ns i s).2 = 0 ∨ (weighT ns i s).2 = 126
  | [], i, s => .inl rfl
  | n :: ns, i, s => by
    unfold weighT
    split
    · exact .inr rfl
    · exact weighT_code ns _ _
theorem truthK_false {k : Int} (h : truthK k = false) : k ≠ 7 ∧ k ≠ 8 ∧ k ≠ 9 := by
  refine ⟨?_, ?_, ?_⟩ <;> rintro rfl <;> exact absurd h (by decide)
/-- The law: where the error isn't the whole's (its weight, its end, its being no truth). -/
theorem check_first {ns : List Node} {j : Nat} {er : Int} (h : checkT ns = ((j : Int), er)) (h0 : er ≠ 0) (h126 : er ≠ 126) (hj : j < ns.length)
    (h121 : ¬ (er = 121 ∧ (ns.getD j Node.zero).kind ≠ 7 ∧ (ns.getD j Node.zero).kind ≠ 8 ∧ (ns.getD j Node.zero).kind ≠ 9)) :
    ∀ more, checkT (ns.take (j + 1) ++ more) = ((j : Int), er) := by
  have hp : 0 < ns.length := by omega
  unfold checkT at h
  by_cases hc : (runT ns 0 [] []).2.1 ≠ 0
  · rw [if_pos hc] at h
    have e1 : (runT ns 0 [] []).1 = j := congrArg Prod.fst h
    have e2 : (runT ns 0 [] []).2.1 = er := congrArg Prod.snd h
    obtain ⟨j', hj', hpl, hm⟩ := runT_err ns 0 [] [] hc (by rw [e1]; omega)
    have : j' = j := by omega
    subst this
    intro more
    unfold checkT
    rw [hm more, if_pos hc, e1, e2]
  · exfalso
    rw [if_neg hc] at h
    have hc0 : (runT ns 0 [] []).2.1 = 0 := by simpa using hc
    rw [root_truth hc0 hp] at h
    by_cases ht : truthK (ns.getD (ns.length - 1) Node.zero).kind = false
    · rw [if_pos ht] at h
      have e1 : (ns.length : Int) - 1 = j := congrArg Prod.fst h
      have e2 : 121 = er := congrArg Prod.snd h
      have : ns.length - 1 = j := by omega
      rw [this] at ht
      exact h121 ⟨e2.symm, truthK_false ht⟩
    · rw [if_neg ht] at h
      have e2 : (weighT ns 0 0).2 = er := congrArg Prod.snd h
      rcases weighT_code ns 0 0 with h' | h'
      · exact h0 (by rw [← e2, h'])
      · exact h126 (by rw [← e2, h'])
theorem runT_place : ∀ (ns : List Node) (i : Int) (st : List Int) (ps : List Part), 0 ≤ i → 0 ≤ (runT ns i st ps).1
  | [], i, st, ps, h => by
    unfold runT
    split
    · exact Int.le_refl _
    · exact h
  | n :: ns, i, st, ps, h => by
    rw [runT_cons]
    split
    · exact h
    · exact runT_place ns _ _ _ (by omega)
theorem weighT_place : ∀ (ns : List Node) (i s : Int), 0 ≤ i → 0 ≤ (weighT ns i s).1
  | [], i, s, h => Int.le_refl _
  | n :: ns, i, s, h => by
    unfold weighT
    split
    · exact h
    · exact weighT_place ns _ _ (by omega)
theorem check_place (ns : List Node) : 0 ≤ (checkT ns).1 := by
  unfold checkT
  split
  · exact runT_place _ _ _ _ (Int.le_refl _)
  · rename_i hc
    split
    · cases ns with
      | nil => exact absurd (show (runT [] 0 [] []).2.1 ≠ 0 by decide) hc
      | cons n ns => simp only [List.length_cons]; omega
    · exact weighT_place _ _ _ (Int.le_refl _)
end Go.Proofs.YtffkaphbgfdpaaaGreatDoor.T
end

section
/- Lists of nodes, one behind the other: plain. -/
namespace Go.Proofs.YtffkaphbgfdpaaaGreatDoor.T
open Go.RowKit Go.Shelf
set_option linter.unusedVariables false
set_option maxRecDepth 100000
set_option linter.unusedSimpArgs false

/-- The steps of a list, one behind the other, without the end's test. -/
def goT : List Node → List Int → List Part → Option (List Int × List Part)
  | [], st, ps => some (st, ps)
  | n :: ns, st, ps => if (stepT n st ps).1 ≠ 0 then none else goT ns (stepT n st ps).2.1 (stepT n st ps).2.2
theorem goT_cons (n : Node) (ns : List Node) (st : List Int) (ps : List Part) : goT (n :: ns) st ps = if (stepT n st ps).1 ≠ 0 then none else goT ns (stepT n st ps).2.1 (stepT n st ps).2.2 := rfl
theorem run_of_go : ∀ (ns more : List Node) (i : Int) (st st2 : List Int) (ps ps2 : List Part), goT ns st ps = some (st2, ps2) → runT (ns ++ more) i st ps = runT more (i + ns.length) st2 ps2
  | [], more, i, st, st2, ps, ps2, h => by
    cases h
    simp
  | n :: ns, more, i, st, st2, ps, ps2, h => by
    rw [goT_cons] at h
    by_cases hs : (stepT n st ps).1 ≠ 0
    · rw [if_pos hs] at h; cases h
    · rw [if_neg hs] at h
      show runT (n :: (ns ++ more)) i st ps = _
      rw [runT_cons, if_neg hs, run_of_go ns more _ _ _ _ _ h, List.length_cons]
      congr 1
      omega
theorem go_of_run : ∀ (ns : List Node) (i : Int) (st : List Int) (ps : List Part), (runT ns i st ps).2.1 = 0 → goT ns st ps = some ((runT ns i st ps).2.2.1, (runT ns i st ps).2.2.2) ∧ oneB (runT ns i st ps).2.2.1 = true
  | [], i, st, ps, h => by
    unfold runT at h ⊢
    by_cases ho : oneB st = true
    · rw [if_pos ho]; exact ⟨rfl, ho⟩
    · rw [if_neg ho] at h; cases h
  | n :: ns, i, st, ps, h => by
    rw [runT_cons] at h ⊢
    rw [goT_cons]
    by_cases hs : (stepT n st ps).1 ≠ 0
    · rw [if_pos hs] at h; exact absurd h hs
    · rw [if_neg hs] at h
      rw [if_neg hs, if_neg hs]
      exact go_of_run ns _ _ _ h
theorem go_append : ∀ (a b : List Node) (st st2 : List Int) (ps ps2 : List Part), goT a st ps = some (st2, ps2) → goT (a ++ b) st ps = goT b st2 ps2
  | [], b, st, st2, ps, ps2, h => by cases h; rfl
  | n :: a, b, st, st2, ps, ps2, h => by
    rw [goT_cons] at h
    by_cases hs : (stepT n st ps).1 ≠ 0
    · rw [if_pos hs] at h; cases h
    · rw [if_neg hs] at h
      show goT (n :: (a ++ b)) st ps = _
      rw [goT_cons, if_neg hs]
      exact go_append a b _ _ _ _ h
/-- Places, moved by k. -/
def mv (k : Nat) (st : List Int) : List Int := st.map (· + (k : Int))
theorem mv_len (k : Nat) (st : List Int) : (mv k st).length = st.length := by simp [mv]
theorem mv_get {st0 st : List Int} {i : Nat} (hi : i < st.length) : (st0 ++ mv st0.length st).getD (st0.length + i) 0 = st.getD i 0 + (st0.length : Int) := by
  simp [mv, List.getD_eq_getElem?_getD, List.getElem?_append_right, hi]
theorem downs_shift {st0 st : List Int} (hs : StartsOk st) : ∀ (a : Nat) (at_ r : Int), 0 ≤ at_ → at_ ≤ st.length → downs st a at_ = some r → downs (st0 ++ mv st0.length st) a (at_ + (st0.length : Int)) = some (r + (st0.length : Int))
  | 0, at_, r, h0, h1, h => by
    simp only [downs, Option.some.injEq] at h ⊢
    rw [h]
  | a + 1, at_, r, h0, h1, h => by
    unfold downs at h ⊢
    by_cases hz : at_ = 0
    · rw [if_pos hz] at h; cases h
    · rw [if_neg hz] at h
      rw [if_neg (by omega)]
      have hi : at_.toNat - 1 < st.length := by omega
      have e : (at_ + (st0.length : Int)).toNat - 1 = st0.length + (at_.toNat - 1) := by omega
      rw [e, mv_get hi]
      have hb := hs _ hi
      exact downs_shift hs a _ r hb.1 (by omega) h
theorem addL_shift {st0 st st2 : List Int} {a : Nat} (hs : StartsOk st) (h : addL st a = some st2) : addL (st0 ++ mv st0.length st) a = some (st0 ++ mv st0.length st2) := by
  unfold addL at h ⊢
  cases hd : downs st a st.length with
  | none => rw [hd] at h; cases h
  | some r =>
    rw [hd] at h
    cases h
    have := downs_shift (st0 := st0) hs a st.length r (by omega) (Int.le_refl _) hd
    have e : (((st0 ++ mv st0.length st).length : Nat) : Int) = (st.length : Int) + (st0.length : Int) := by rw [List.length_append, mv_len]; omega
    rw [e, this]
    simp [mv]
theorem addL_starts {st st2 : List Int} {a : Nat} (hs : StartsOk st) (h : addL st a = some st2) : StartsOk st2 := by
  unfold addL at h
  cases hd : downs st a st.length with
  | none => rw [hd] at h; cases h
  | some r =>
    rw [hd] at h
    cases h
    have := downs_range hs a _ _ (by omega) (Int.le_refl _) hd
    exact hs.snoc this.1 this.2
theorem ps_get {ps0 ps : List Part} {i : Nat} : (ps0 ++ ps).getD (ps0.length + i) Part.zero = ps.getD i Part.zero := by
  simp [List.getD_eq_getElem?_getD, List.getElem?_append_right]
theorem kids_shift {st0 st st2 : List Int} {ps0 ps : List Part} {a : Nat} (hs : StartsOk st) (h : addL st a = some st2) (h0 : ps0.length = st0.length) : kidsL a (st0 ++ mv st0.length st) (ps0 ++ ps) = kidsL a st ps := by
  unfold kidsL
  by_cases h1 : a = 1
  · subst h1
    have hp : 0 < st.length := by
      cases st with
      | nil => cases h
      | cons x l => simp
    have e : (st0 ++ mv st0.length st).length - 1 = ps0.length + (st.length - 1) := by rw [List.length_append, mv_len]; omega
    rw [if_pos rfl, if_pos rfl, e, ps_get]
  · rw [if_neg h1, if_neg h1]
    by_cases h2 : a = 2
    · subst h2
      have hp : 0 < st.length := by
        cases st with
        | nil => cases h
        | cons x l => simp
      have e : (st0 ++ mv st0.length st).length - 1 = ps0.length + (st.length - 1) := by rw [List.length_append, mv_len]; omega
      rw [if_pos rfl, if_pos rfl, e, ps_get, h0, mv_get (by omega), ← h0]
      have hv := hs (st.length - 1) (by omega)
      have hn : st.getD (st.length - 1) 0 ≠ 0 := by
        intro hz
        unfold addL at h
        unfold downs at h
        rw [if_neg (by omega)] at h
        have e2 : ((st.length : Int)).toNat - 1 = st.length - 1 := by omega
        rw [e2, hz] at h
        cases h
      have e3 : (st.getD (st.length - 1) 0 + (ps0.length : Int) - 1).toNat = ps0.length + (st.getD (st.length - 1) 0 - 1).toNat := by omega
      rw [e3, ps_get]
    · rw [if_neg h2, if_neg h2]
theorem step_shift {n : Node} {st0 st : List Int} {ps0 ps : List Part} (hs : StartsOk st) (h0 : ps0.length = st0.length) (h : (stepT n st ps).1 = 0) :
    stepT n (st0 ++ mv st0.length st) (ps0 ++ ps) = (0, st0 ++ mv st0.length (stepT n st ps).2.1, ps0 ++ (stepT n st ps).2.2) := by
  obtain ⟨a, st2, ha, hb, h1, h2, h3, h4, e⟩ := stepT_ok h
  rw [e]
  unfold stepT
  simp only [ha, addL_shift (st0 := st0) hs hb, kids_shift (ps := ps) hs hb h0]
  rw [if_neg (by simp [h1]), if_neg (by simp [h2]), if_neg (by simp [h3]), if_neg (fun hh => by rw [h4 hh.1] at hh; cases hh.2)]
  simp
theorem step_starts {n : Node} {st : List Int} {ps : List Part} (hs : StartsOk st) (h : (stepT n st ps).1 = 0) : StartsOk (stepT n st ps).2.1 := by
  obtain ⟨a, st2, ha, hb, h1, h2, h3, h4, e⟩ := stepT_ok h
  rw [e]
  exact addL_starts hs hb
theorem go_starts : ∀ {ns : List Node} {st st2 : List Int} {ps ps2 : List Part}, StartsOk st → goT ns st ps = some (st2, ps2) → StartsOk st2
  | [], st, st2, ps, ps2, hs, h => by cases h; exact hs
  | n :: ns, st, st2, ps, ps2, hs, h => by
    rw [goT_cons] at h
    by_cases hc : (stepT n st ps).1 ≠ 0
    · rw [if_pos hc] at h; cases h
    · rw [if_neg hc] at h
      exact go_starts (step_starts hs (by simpa using hc)) h
theorem go_len : ∀ {ns : List Node} {st st2 : List Int} {ps ps2 : List Part}, goT ns st ps = some (st2, ps2) → st2.length = st.length + ns.length ∧ ps2.length = ps.length + ns.length
  | [], st, st2, ps, ps2, h => by cases h; simp
  | n :: ns, st, st2, ps, ps2, h => by
    rw [goT_cons] at h
    by_cases hc : (stepT n st ps).1 ≠ 0
    · rw [if_pos hc] at h; cases h
    · rw [if_neg hc] at h
      have hc0 : (stepT n st ps).1 = 0 := by simpa using hc
      obtain ⟨h1, h2⟩ := go_len h
      obtain ⟨a, st3, ha, hb, _, _, _, _, e⟩ := stepT_ok hc0
      rw [e] at h1 h2
      have := addL_len hb
      simp only [List.length_append, List.length_cons, List.length_nil] at h1 h2 ⊢
      omega
theorem go_shift : ∀ {ns : List Node} {st0 st st2 : List Int} {ps0 ps ps2 : List Part}, StartsOk st → ps0.length = st0.length → goT ns st ps = some (st2, ps2) →
    goT ns (st0 ++ mv st0.length st) (ps0 ++ ps) = some (st0 ++ mv st0.length st2, ps0 ++ ps2)
  | [], st0, st, st2, ps0, ps, ps2, hs, h0, h => by cases h; rfl
  | n :: ns, st0, st, st2, ps0, ps, ps2, hs, h0, h => by
    rw [goT_cons] at h
    by_cases hc : (stepT n st ps).1 ≠ 0
    · rw [if_pos hc] at h; cases h
    · rw [if_neg hc] at h
      have hc0 : (stepT n st ps).1 = 0 := by simpa using hc
      rw [goT_cons, step_shift hs h0 hc0, if_neg (by simp)]
      exact go_shift (step_starts hs hc0) h0 h
theorem StartsOk.nil : StartsOk [] := fun i hi => by cases hi
/-- What a list without an error is: its starts, its parts; one tree. -/
structure Tree (ns : List Node) (st : List Int) (ps : List Part) : Prop where
  go : goT ns [] [] = some (st, ps)
  starts : StartsOk st
  slen : st.length = ns.length
  plen : ps.length = ns.length
  pos : 0 < ns.length
  root : st.getD (ns.length - 1) 0 = 0
theorem tree_of {ns : List Node} (h : (runT ns 0 [] []).2.1 = 0) : Tree ns (runT ns 0 [] []).2.2.1 (runT ns 0 [] []).2.2.2 := by
  obtain ⟨hg, ho⟩ := go_of_run ns 0 [] [] h
  obtain ⟨h1, h2⟩ := go_len hg
  have ho' := of_decide_eq_true ho
  have e : (runT ns 0 [] []).2.2.1.length = ns.length := by simpa using h1
  refine ⟨hg, go_starts StartsOk.nil hg, e, by simpa using h2, by omega, ?_⟩
  rw [← e]
  exact ho'.2
theorem Tree.run {ns : List Node} {st : List Int} {ps : List Part} (h : Tree ns st ps) (i : Int) : runT ns i [] [] = (0, 0, st, ps) := by
  have := run_of_go ns [] i [] st [] ps h.go
  rw [List.append_nil] at this
  rw [this]
  have ho : oneB st = true := decide_eq_true ⟨by rw [h.slen]; exact h.pos, by rw [h.slen]; exact h.root⟩
  show (if oneB st then (0, 0, st, ps) else _) = _
  rw [if_pos ho]
/-- Two trees, one behind the other. -/
theorem go_two {a b : List Node} {sa sb : List Int} {pa pb : List Part} (ha : Tree a sa pa) (hb : Tree b sb pb) : goT (a ++ b) [] [] = some (sa ++ mv sa.length sb, pa ++ pb) := by
  rw [go_append a b _ _ _ _ ha.go]
  have := go_shift (st0 := sa) (ps0 := pa) StartsOk.nil (by rw [ha.plen, ha.slen]) hb.go
  simpa [mv] using this
end Go.Proofs.YtffkaphbgfdpaaaGreatDoor.T
end

section
/- Filters, joined: plain. -/
namespace Go.Proofs.YtffkaphbgfdpaaaGreatDoor.T
open Go.RowKit Go.Shelf
set_option linter.unusedVariables false
set_option maxRecDepth 100000
set_option linter.unusedSimpArgs false

theorem weightT_cons (n : Node) (ns : List Node) : weightT (n :: ns) = weightI n.kind n + weightT ns := by simp [weightT]
theorem weightT_append (a b : List Node) : weightT (a ++ b) = weightT a + weightT b := by simp [weightT]
theorem weigh_ok : ∀ (ns : List Node) (i s : Int), s + weightT ns ≤ 3000 → weighT ns i s = (0, 0)
  | [], i, s, h => rfl
  | n :: ns, i, s, h => by
    rw [weightT_cons] at h
    have h1 := (weightT_range ns).1
    unfold weighT
    rw [if_neg (by omega)]
    exact weigh_ok ns _ _ (by omega)
theorem weigh_no : ∀ (ns : List Node) (i s : Int), s ≤ 3000 → ¬ s + weightT ns ≤ 3000 → (weighT ns i s).2 = 126
  | [], i, s, h, hn => by simp [weightT] at hn; omega
  | n :: ns, i, s, h, hn => by
    rw [weightT_cons] at hn
    unfold weighT
    by_cases hg : s + weightI n.kind n > 3000
    · rw [if_pos hg]
    · rw [if_neg hg]
      exact weigh_no ns _ _ (by omega) (by omega)
theorem check_ok {ns : List Node} (h : (checkT ns).2 = 0) : (runT ns 0 [] []).2.1 = 0 ∧ truthK (ns.getD (ns.length - 1) Node.zero).kind = true ∧ weightT ns ≤ 3000 := by
  unfold checkT at h
  by_cases hc : (runT ns 0 [] []).2.1 ≠ 0
  · rw [if_pos hc] at h; exact absurd h hc
  · rw [if_neg hc] at h
    have hc0 : (runT ns 0 [] []).2.1 = 0 := by simpa using hc
    rw [root_truth hc0 (tree_of hc0).pos] at h
    by_cases ht : truthK (ns.getD (ns.length - 1) Node.zero).kind = false
    · rw [if_pos ht] at h; cases h
    · rw [if_neg ht] at h
      refine ⟨hc0, by simpa using ht, ?_⟩
      by_cases hw : (0 : Int) + weightT ns ≤ 3000
      · omega
      · have := weigh_no ns 0 0 (by omega) hw
        rw [this] at h; cases h
theorem check_tree {ns : List Node} {st : List Int} {ps : List Part} (h : Tree ns st ps) (ht : truthK (ns.getD (ns.length - 1) Node.zero).kind = true) : (checkT ns).2 = if weightT ns ≤ 3000 then 0 else 126 := by
  have hc := h.run 0
  have hc0 : (runT ns 0 [] []).2.1 = 0 := by rw [hc]
  unfold checkT
  rw [if_neg (by simp [hc0]), root_truth hc0 h.pos, ht, if_neg (by simp)]
  by_cases hw : weightT ns ≤ 3000
  · rw [if_pos hw, weigh_ok ns 0 0 (by omega)]
  · rw [if_neg hw]
    exact weigh_no ns 0 0 (by omega) (by omega)
theorem last_snoc (ns : List Node) (n : Node) : (ns ++ [n]).getD ((ns ++ [n]).length - 1) Node.zero = n := by
  simp [List.getD_eq_getElem?_getD]
theorem tree_snoc {ns : List Node} {n : Node} {st st2 : List Int} {ps ps2 : List Part} (hg : goT ns [] [] = some (st, ps)) (hs : stepT n st ps = (0, st2, ps2)) (hr : st2.getD ns.length 0 = 0) : Tree (ns ++ [n]) st2 ps2 := by
  have e : goT (ns ++ [n]) [] [] = some (st2, ps2) := by
    rw [go_append ns [n] _ _ _ _ hg, goT_cons, hs, if_neg (by simp)]
    rfl
  obtain ⟨h1, h2⟩ := go_len e
  refine ⟨e, go_starts StartsOk.nil e, by simpa using h1, by simpa using h2, by simp, ?_⟩
  rw [List.length_append]
  exact hr
theorem Tree.truth {ns : List Node} {st : List Int} {ps : List Part} (h : Tree ns st ps) : (ps.getD (ns.length - 1) Part.zero).truth = truthK (ns.getD (ns.length - 1) Node.zero).kind := by
  have hc := h.run 0
  have := root_truth (ns := ns) (by rw [hc]) h.pos
  rwa [hc] at this
theorem one_addL {a : List Node} {sa : List Int} {pa : List Part} (ha : Tree a sa pa) : addL sa 1 = some (sa ++ [0]) := by
  have hp := ha.pos
  have hl := ha.slen
  unfold addL
  have e : downs sa 1 sa.length = some 0 := by
    unfold downs
    rw [if_neg (by omega)]
    have e2 : ((sa.length : Nat) : Int).toNat - 1 = a.length - 1 := by omega
    rw [e2, ha.root]
    rfl
  rw [e]
  rfl
theorem one_kids {a : List Node} {sa : List Int} {pa : List Part} (ha : Tree a sa pa) : kidsL 1 sa pa = [pa.getD (a.length - 1) Part.zero] := by
  unfold kidsL
  rw [if_pos rfl, ha.slen]
theorem two_last {a b : List Node} {sa sb : List Int} {pa pb : List Part} (ha : Tree a sa pa) (hb : Tree b sb pb) : (sa ++ mv sa.length sb).getD ((sa ++ mv sa.length sb).length - 1) 0 = (sa.length : Int) := by
  have hp := hb.pos
  have hl := hb.slen
  have e : (sa ++ mv sa.length sb).length - 1 = sa.length + (b.length - 1) := by rw [List.length_append, mv_len]; omega
  rw [e, mv_get (by omega), hb.root]
  omega
theorem two_addL {a b : List Node} {sa sb : List Int} {pa pb : List Part} (ha : Tree a sa pa) (hb : Tree b sb pb) : addL (sa ++ mv sa.length sb) 2 = some (sa ++ mv sa.length sb ++ [0]) := by
  have hp := ha.pos
  have hl := ha.slen
  have h1 := two_last ha hb
  unfold addL
  have e : downs (sa ++ mv sa.length sb) 2 (sa ++ mv sa.length sb).length = some 0 := by
    unfold downs
    rw [if_neg (by rw [List.length_append]; omega)]
    have e2 : (((sa ++ mv sa.length sb).length : Nat) : Int).toNat - 1 = (sa ++ mv sa.length sb).length - 1 := by omega
    rw [e2, h1]
    unfold downs
    rw [if_neg (by omega)]
    have e3 : ((sa.length : Nat) : Int).toNat - 1 = a.length - 1 := by omega
    have e4 : (sa ++ mv sa.length sb).getD (a.length - 1) 0 = sa.getD (a.length - 1) 0 := by
      simp only [List.getD_eq_getElem?_getD]
      rw [List.getElem?_append_left (by omega)]
    rw [e3, e4, ha.root]
    rfl
  rw [e]
  rfl
theorem two_kids {a b : List Node} {sa sb : List Int} {pa pb : List Part} (ha : Tree a sa pa) (hb : Tree b sb pb) : kidsL 2 (sa ++ mv sa.length sb) (pa ++ pb) = [pa.getD (a.length - 1) Part.zero, pb.getD (b.length - 1) Part.zero] := by
  have hp := ha.pos
  have hpb := hb.pos
  have hl := ha.slen
  have hlb := hb.slen
  have hpa := ha.plen
  unfold kidsL
  rw [if_neg (by decide), if_pos rfl, two_last ha hb]
  have e1 : ((sa.length : Int) - 1).toNat = a.length - 1 := by omega
  have e2 : (sa ++ mv sa.length sb).length - 1 = pa.length + (b.length - 1) := by rw [List.length_append, mv_len]; omega
  rw [e1, e2, ps_get]
  congr 1
  simp only [List.getD_eq_getElem?_getD]
  rw [List.getElem?_append_left (by omega)]
/-- A node of a truth behind kids that are truths. -/
theorem made_joined {n : Node} {kids : List Part} (hk : n.kind = 7 ∨ n.kind = 8 ∨ n.kind = 9) (h : ∀ p ∈ kids, p.truth = true) : madeL n (truthK n.kind) (wantsK n.kind) kids = (⟨true, false, 0⟩, 0) := by
  have hw : wantsK n.kind = true := by rcases hk with e | e | e <;> rw [e] <;> rfl
  have ht : truthK n.kind = true := by rcases hk with e | e | e <;> rw [e] <;> rfl
  have hb : kidsBad true kids = false := by
    unfold kidsBad
    rw [List.any_eq_false]
    intro p hp
    simp [h p hp]
  rw [hw, ht]
  unfold madeL
  rw [hb, if_neg (by simp), if_neg (by omega), if_neg (by omega), if_neg (by omega)]
theorem made_apart {n : Node} {kids : List Part} (hk : n.kind = 4 ∨ n.kind = 5 ∨ n.kind = 6) {p : Part} (hp : p ∈ kids) (h : p.truth = true) : (madeL n (truthK n.kind) (wantsK n.kind) kids).2 = 122 := by
  have hw : wantsK n.kind = false := by rcases hk with e | e | e <;> rw [e] <;> rfl
  have hb : kidsBad false kids = true := by
    unfold kidsBad
    rw [List.any_eq_true]
    exact ⟨p, hp, by simp [h]⟩
  rw [hw]
  unfold madeL
  rw [hb, if_pos rfl]
  rfl
/-- A step that joins. -/
theorem step_joined {n : Node} {a : Nat} {st st2 : List Int} {ps : List Part} (hk : n.kind = 7 ∨ n.kind = 8 ∨ n.kind = 9) (ha : arityK n.kind = some a) (h2 : addL st a = some st2) (hu : unusedB n.kind n = true) (h : ∀ p ∈ kidsL a st ps, p.truth = true) :
    stepT n st ps = (0, st2, ps ++ [⟨true, false, 0⟩]) := by
  have hf : fitsB n.kind n = true := by rcases hk with e | e | e <;> rw [e] <;> rfl
  unfold stepT
  simp only [ha, h2, hu, made_joined hk h, hf]
  simp
  omega
theorem step_apart {n : Node} {a : Nat} {st st2 : List Int} {ps : List Part} (hk : n.kind = 4 ∨ n.kind = 5 ∨ n.kind = 6) (ha : arityK n.kind = some a) (h2 : addL st a = some st2) (hu : unusedB n.kind n = true) {p : Part} (hp : p ∈ kidsL a st ps) (h : p.truth = true) :
    stepT n st ps = (122, st, ps) := by
  unfold stepT
  simp only [ha, h2, hu, made_apart hk hp h]
  rfl
theorem check_err {ns : List Node} {n : Node} {st st2 : List Int} {ps ps2 : List Part} {c : Int} (hg : goT ns [] [] = some (st, ps)) (hs : stepT n st ps = (c, st2, ps2)) (hc : c ≠ 0) (more : List Node) : checkT (ns ++ n :: more) = ((ns.length : Int), c) := by
  have e : runT (ns ++ n :: more) 0 [] [] = ((ns.length : Int), c, st, ps) := by
    rw [run_of_go ns _ 0 _ _ _ _ hg, runT_cons, hs, if_pos hc]
    simp
  unfold checkT
  rw [e, if_pos hc]
theorem go_of_check {a : List Node} (ha : (checkT a).2 = 0) : ∃ sa pa, Tree a sa pa ∧ (pa.getD (a.length - 1) Part.zero).truth = true := by
  obtain ⟨h1, h2, _⟩ := check_ok ha
  refine ⟨_, _, tree_of h1, ?_⟩
  rw [(tree_of h1).truth]
  exact h2
theorem join_two {a b : List Node} (ha : (checkT a).2 = 0) (hb : (checkT b).2 = 0) {n : Node} (hk : n.kind = 7 ∨ n.kind = 8) (hu : unusedB n.kind n = true) : (checkT (a ++ b ++ [n])).2 = if weightT (a ++ b) < 3000 then 0 else 126 := by
  obtain ⟨sa, pa, hA, tA⟩ := go_of_check ha
  obtain ⟨sb, pb, hB, tB⟩ := go_of_check hb
  have hg := go_two hA hB
  have har : arityK n.kind = some 2 := by rcases hk with e | e <;> rw [e] <;> rfl
  have hs := step_joined (n := n) (by omega) har (two_addL hA hB) hu (ps := pa ++ pb) (by
    rw [two_kids hA hB]
    intro p hp
    simp only [List.mem_cons, List.not_mem_nil, or_false] at hp
    rcases hp with rfl | rfl
    · exact tA
    · exact tB)
  have hl : (sa ++ mv sa.length sb).length = (a ++ b).length := by rw [List.length_append, List.length_append, mv_len, hA.slen, hB.slen]
  have hT := tree_snoc hg hs (by rw [← hl]; simp [List.getD_eq_getElem?_getD])
  rw [check_tree hT (by rw [last_snoc]; rcases hk with e | e <;> rw [e] <;> rfl), weightT_append (a ++ b) [n]]
  have hw : weightT [n] = 1 := by rw [weightT_cons]; rcases hk with e | e <;> rw [e] <;> rfl
  rw [hw]
  by_cases h : weightT (a ++ b) < 3000
  · rw [if_pos h, if_pos (by omega)]
  · rw [if_neg h, if_neg (by omega)]
theorem join_two_no {a b : List Node} (ha : (checkT a).2 = 0) (hb : (checkT b).2 = 0) {n : Node} (hk : n.kind = 4 ∨ n.kind = 6) (hu : unusedB n.kind n = true) : checkT (a ++ b ++ [n]) = (((a ++ b).length : Int), 122) := by
  obtain ⟨sa, pa, hA, tA⟩ := go_of_check ha
  obtain ⟨sb, pb, hB, tB⟩ := go_of_check hb
  have har : arityK n.kind = some 2 := by rcases hk with e | e <;> rw [e] <;> rfl
  exact check_err (go_two hA hB) (step_apart (n := n) (by omega) har (two_addL hA hB) hu (by rw [two_kids hA hB]; exact List.mem_cons_self ..) tA) (by decide) []
theorem join_minus {a : List Node} (ha : (checkT a).2 = 0) : checkT (a ++ [Node.k0 5]) = ((a.length : Int), 122) := by
  obtain ⟨sa, pa, hA, tA⟩ := go_of_check ha
  exact check_err hA.go (step_apart (n := Node.k0 5) (.inr (.inl rfl)) (show arityK (Node.k0 5).kind = some 1 from rfl) (one_addL hA) (by kernel_rfl) (by rw [one_kids hA]; exact List.mem_cons_self ..) tA) (by decide) []
theorem join_not {a : List Node} (ha : (checkT a).2 = 0) : (checkT (a ++ [Node.k0 9])).2 = if weightT a < 3000 then 0 else 126 := by
  obtain ⟨sa, pa, hA, tA⟩ := go_of_check ha
  have hs := step_joined (n := Node.k0 9) (ps := pa) (.inr (.inr rfl)) (show arityK (Node.k0 9).kind = some 1 from rfl) (one_addL hA) (by kernel_rfl) (by
    rw [one_kids hA]
    intro p hp
    simp only [List.mem_cons, List.not_mem_nil, or_false] at hp
    rw [hp]
    exact tA)
  have hT := tree_snoc hA.go hs (by rw [← hA.slen]; simp [List.getD_eq_getElem?_getD])
  rw [check_tree hT (by rw [last_snoc]; rfl), weightT_append a [Node.k0 9]]
  have hw : weightT [Node.k0 9] = 1 := rfl
  rw [hw]
  by_cases h : weightT a < 3000
  · rw [if_pos h, if_pos (by omega)]
  · rw [if_neg h, if_neg (by omega)]
theorem pos_ite {c : Prop} [Decidable c] {a b : Int} (h1 : 1 ≤ a) (h2 : ¬ c → 1 ≤ b) : 1 ≤ (if c then a else b) := by
  by_cases hc : c
  · rw [if_pos hc]; exact h1
  · rw [if_neg hc]; exact h2 hc
theorem byI_pos {f s : Int} (hf : 1 ≤ f) (hs : 1 ≤ s) (n : Node) : 1 ≤ byI f s n := by
  unfold byI
  exact pos_ite hs fun _ => hf
theorem weightI_pos {n : Node} (h : ∃ a, arityK n.kind = some a) : 1 ≤ weightI n.kind n := by
  obtain ⟨a, ha⟩ := h
  obtain ⟨h1, h2, _⟩ := arityK_range ha
  unfold weightI
  iterate 13 (refine pos_ite (by decide) fun _ => ?_)
  refine pos_ite (byI_pos (by decide) (by decide) n) fun _ => pos_ite (byI_pos (by decide) (by decide) n) fun _ => pos_ite (by decide) fun _ => ?_
  omega
theorem len_le_weight : ∀ (ns : List Node), (∀ n ∈ ns, ∃ a, arityK n.kind = some a) → (ns.length : Int) ≤ weightT ns
  | [], h => by simp [weightT]
  | n :: ns, h => by
    have h1 := weightI_pos (h n (List.mem_cons_self ..))
    have h2 := len_le_weight ns fun m hm => h m (List.mem_cons_of_mem _ hm)
    rw [weightT_cons, List.length_cons]
    omega
/-- A filter is short. -/
theorem check_short {a : List Node} (ha : (checkT a).2 = 0) : a.length ≤ 3000 := by
  obtain ⟨h1, _, h3⟩ := check_ok ha
  have := len_le_weight a (runT_ok a 0 [] [] h1).1
  omega
end Go.Proofs.YtffkaphbgfdpaaaGreatDoor.T
end
