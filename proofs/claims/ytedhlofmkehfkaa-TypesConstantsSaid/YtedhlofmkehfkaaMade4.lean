import Derived.Test.YtedhlofmkehfkaaMade
import Derived.Deep.DeepCutAuto
namespace Go.Proofs.Ytedhlofmkehfkaa
open Go.RowKit
set_option linter.unusedVariables false
set_option linter.unusedSimpArgs false
/-- What lies in memory when the parts of an operation have been laid: the first at p, the second at q. -/
structure X4 (w : World) (b S p q : Nat) (n : Node) (truth xc : Bool) (xv : Int) (yc : Bool) (yv : Int) (V : World) : Prop where
  v0 : V.cell? ⟨S, 0, none⟩ = some (.bool truth)
  v1 : V.cell? ⟨S, 1, none⟩ = some (.bool false)
  v2 : V.cell? ⟨S, 2, none⟩ = some (.int .u32 0)
  y1 : V.cell? ⟨q, 1, none⟩ = some (.bool yc)
  y2 : V.cell? ⟨q, 2, none⟩ = some (.int .u32 yv)
  x1 : V.cell? ⟨p, 1, none⟩ = some (.bool xc)
  x2 : V.cell? ⟨p, 2, none⟩ = some (.int .u32 xv)
  m1 : V.cell? ⟨b, 1, none⟩ = some (.int .i64 n.op)
  k0 : V.cell? ⟨b + 1 + 1, 0, none⟩ = some (.bool false)
  k1 : V.cell? ⟨b + 1 + 1, 1, none⟩ = some (.bool false)
  k2 : V.cell? ⟨b + 1 + 1, 2, none⟩ = some (.int .u32 0)
  g1 : V.frozen? ⟨S, 1, none⟩ = false
  g2 : V.frozen? ⟨S, 2, none⟩ = false
  p0 : V.frozen? ⟨b + 1 + 1, 0, none⟩ = false
  p1 : V.frozen? ⟨b + 1 + 1, 1, none⟩ = false
  p2 : V.frozen? ⟨b + 1 + 1, 2, none⟩ = false
  out : V.heap[S]? = some (.cells #[.bool truth, .bool false, .int .u32 0] 55 (0, 0))
  res : V.heap[b + 1 + 1]? = some (.cells #[.bool false, .bool false, .int .u32 0] 55 (0, 0))
  below : Below b w V
  lt : b + 1 + 1 < S
theorem row3 {X : World} {B : Nat} {t : TypeId} {p q r : Value} (h : X.heap[B]? = some (.cells #[p, q, r] t (0, 0))) (a b c : Value) :
    (((X.setCell ⟨B, 0, none⟩ a).setCell ⟨B, 1, none⟩ b).setCell ⟨B, 2, none⟩ c).heap[B]? = some (.cells #[a, b, c] t (0, 0)) := by
  have h1 := heap_setCell_same X B 0 _ t a h
  have h2 := heap_setCell_same _ B 1 _ t b h1
  have h3 := heap_setCell_same _ B 2 _ t c h2
  exact h3
theorem made_results (tmps : Array Value) (W : World) (B : Nat) (x y z c : Value) (hp : tmps.getD 6 undef = .pointer (some ⟨B, 0, none⟩)) (hc : tmps.getD 7 undef = c)
    (h : W.heap[B]? = some (.cells #[x, y, z] 55 (0, 0))) : (results Try.f77 tmps).run Try.prog W = .ok (.tuple #[.agg #[x, y, z], c]) W := by
  have hl := run_loadVar_row (P := Try.prog) W B 55 55 #[x, y, z] (0, 0) _ h Try.underlying55 rfl (by kernel_rfl)
  have hr : Try.f77.results = #[.cell 6 55, .tmp 7] := rfl
  have hp' : tmps[6]?.getD undef = .pointer (some ⟨B, 0, none⟩) := by simpa using hp
  have hc' : tmps[7]?.getD undef = c := by simpa using hc
  simp [results, hr, hp', hc', asAddr, hl]
theorem v4_of {w wr : World} {b : Nat} {n : Node} {tr wants : Bool} {u f g : Value} (hM : MadeAt w b n tr wants u f g wr) (truth xt xc : Bool) (xv : Int) (yt yc : Bool) (yv : Int) :
    X4 w b wr.heap.size (wr.heap.size + 1 + 1) (wr.heap.size + 1) n truth xc xv yc yv (((wr.alloc (.cells #[.bool truth, .bool false, .int .u32 0] 55)).alloc (.cells #[.bool yt, .bool yc, .int .u32 yv] 55)).alloc (.cells #[.bool xt, .bool xc, .int .u32 xv] 55)).drew ∧
    X4 w b wr.heap.size (wr.heap.size + 1) (wr.heap.size + 1 + 1) n truth yc yv xc xv (((wr.alloc (.cells #[.bool truth, .bool false, .int .u32 0] 55)).alloc (.cells #[.bool yt, .bool yc, .int .u32 yv] 55)).alloc (.cells #[.bool xt, .bool xc, .int .u32 xv] 55)).drew := by
  have ks := hM.size
  have hb1 : Below wr.heap.size wr (((wr.alloc (.cells #[.bool truth, .bool false, .int .u32 0] 55)).alloc (.cells #[.bool yt, .bool yc, .int .u32 yv] 55)).alloc (.cells #[.bool xt, .bool xc, .int .u32 xv] 55)).drew :=
    ((((Below.refl _ wr).alloc (Nat.le_refl _) _).alloc (by simp) _).alloc (by simp; omega) _).drew
  have n1 : wr.cell? ⟨b, 1, none⟩ = some (.int .i64 n.op) := by
    have := nodeIn_of hM.node 1 _ rfl
    rwa [add_plain] at this
  have hR := hb1.block (b + 1 + 1) ks
  rw [hM.res] at hR
  have hS1 : wr.heap.size < wr.heap.size + 1 := by omega
  have hS2 : wr.heap.size < wr.heap.size + 1 + 1 := by omega
  have hS3 : wr.heap.size + 1 < wr.heap.size + 1 + 1 := by omega
  have hO : (((wr.alloc (.cells #[.bool truth, .bool false, .int .u32 0] 55)).alloc (.cells #[.bool yt, .bool yc, .int .u32 yv] 55)).alloc (.cells #[.bool xt, .bool xc, .int .u32 xv] 55)).drew.heap[wr.heap.size]? = some (.cells #[.bool truth, .bool false, .int .u32 0] 55 (0, 0)) := by
    show (((wr.alloc (.cells #[.bool truth, .bool false, .int .u32 0] 55)).alloc (.cells #[.bool yt, .bool yc, .int .u32 yv] 55)).alloc (.cells #[.bool xt, .bool xc, .int .u32 xv] 55)).heap[wr.heap.size]? = _
    rw [Below.heap_alloc _ _ _ (by simp; omega), Below.heap_alloc _ _ _ (by simp), heap_alloc_new]
  constructor
  all_goals
    refine ⟨cell_of_row _ _ 0 _ _ _ hO, cell_of_row _ _ 1 _ _ _ hO, cell_of_row _ _ 2 _ _ _ hO, ?_, ?_, ?_, ?_, (hb1.cell (p := ⟨b, 1, none⟩) (by show b < _; omega)).trans n1, cell_of_row _ _ 0 _ _ _ hR, cell_of_row _ _ 1 _ _ _ hR, cell_of_row _ _ 2 _ _ _ hR, frozen_of_row _ _ 1 _ _ hO, frozen_of_row _ _ 2 _ _ hO,
      frozen_of_row _ _ 0 _ _ hR, frozen_of_row _ _ 1 _ _ hR, frozen_of_row _ _ 2 _ _ hR, hO, hR, hM.below.trans (hb1.mono (by omega)), ks⟩
    all_goals simp [go_sem, hS1, hS2, hS3]
set_option maxHeartbeats 2000000 in
set_option maxRecDepth 100000 in
theorem made_4 (n : Node) (truth wants : Bool) (u f g : Value) (A : Option Addr) (c kb : Nat) (kids : List Part) (w : World) (hA : 0 < kids.length → A = some ⟨kb, 0, none⟩) (hk : KidsAt w kb kids) (hu : u.oneCell' = true) (hf : f.oneCell' = true) (hg : g.oneCell' = true)
    (hm : kids.length ≤ 2) (hku : ∀ p ∈ kids, isU32 p.value) (qk : n.kind = 4) (h5 : n.kind = 5 → 1 ≤ kids.length) (h4 : n.kind = 4 → 2 ≤ kids.length) :
    Calls Try.prog 77 #[.agg (enc n), .agg #[.bool truth, .bool wants, u, f, g], .slice A kids.length c] w fun e w' =>
      e = .returned (.tuple #[.agg #[.bool (madeL n truth wants kids).1.truth, .bool (madeL n truth wants kids).1.constant, .int .u32 (madeL n truth wants kids).1.value], .int .i64 (madeL n truth wants kids).2]) ∧ Below w.heap.size w w' := by
  have M0 := made_start w n truth wants u f g
  obtain ⟨b, hb⟩ : ∃ b, w.heap.size = b := ⟨_, rfl⟩
  have HM := Lib.hid M0
  clear M0
  go_enter Try.func77, Try.ntmps77
  go_wp2
  go_loopw [15] (fun x wr => ∃ i : Nat, i ≤ kids.length ∧ x = .int .i64 i ∧ kidsBad wants (kids.take i) = false ∧ MadeAt w b n truth wants u f g wr ∧ KidsAt wr kb kids) (fun x _ => kids.length - (intOf x).toNat)
  case atStart => exact ⟨0, by omega, rfl, rfl, hb ▸ HM.out, hk.later (hb ▸ HM.out.below)⟩
  case round =>
    obtain ⟨i, hi, rfl, hbad, hM, hK⟩ := hrel
    by_cases hlt : i < kids.length
    · obtain rfl := hA (by omega)
      have hkb := kidsBad_take (wants := wants) hlt
      rw [hbad] at hkb
      have hko := fun h => kidsBad_of (wants := wants) hlt h
      obtain ⟨p, hp⟩ : ∃ p, kids.getD i Part.zero = p := ⟨_, rfl⟩
      have c0 := hK i hlt 0 _ rfl
      have c1 := hK i hlt 1 _ rfl
      have c2 := hK i hlt 2 _ rfl
      rw [hp, Nat.add_zero] at c0
      rw [hp] at c1 c2 hkb hko
      have r1 := hM.row1
      have r1s := World.block_lt_of_cell? wr _ r1
      have k0 : wr.cell? ⟨b + 1 + 1, 0, none⟩ = some (.bool false) := cell_of_row wr _ 0 _ _ _ hM.res
      have k1 : wr.cell? ⟨b + 1 + 1, 1, none⟩ = some (.bool false) := cell_of_row wr _ 1 _ _ _ hM.res
      have k2 : wr.cell? ⟨b + 1 + 1, 2, none⟩ = some (.int .u32 0) := cell_of_row wr _ 2 _ _ _ hM.res
      have f0 := frozen_of_row wr (b + 1 + 1) 0 _ _ hM.res
      have f1 := frozen_of_row wr (b + 1 + 1) 1 _ _ hM.res
      have f2 := frozen_of_row wr (b + 1 + 1) 2 _ _ hM.res
      have ks : b + 1 + 1 < wr.heap.size := hM.size
      have HM2 := Lib.hid hM
      have HK2 := Lib.hid hK
      have Hkb := Lib.hid hkb
      have Hko := Lib.hid hko
      have Hb := Lib.hid hb
      clear hM hK hp hbad hkb hko HM hk hA h4 h5 hb
      obtain ⟨pt, pc, pv⟩ := p
      cases wants
      case false =>
        cases pt
        case false =>
          go_wp2
          go_roundw
          case rel => exact ⟨i + 1, by omega, by go_num, by rw [Hkb.out]; rfl, HM2.out.later ((Below.refl _ _).alloc (Nat.le_refl _) _), HK2.out.later ((Below.refl _ _).alloc (Nat.le_refl _) _)⟩
          case measure => simp [intOf]; omega
        case true =>
          have hres : Hid (madeL n truth false kids = (Part.zero, 122)) := by
            show _ = _
            rw [madeL, if_pos (Hko.out (by simp))]
            rfl
          go_wp2
          refine bodyPost_ret (v := .tuple #[.agg #[.bool false, .bool false, .int .u32 0], .int .i64 122]) (by simp [results, Try.results77, go_sem, *]) rfl ⟨by rw [hres.out]; rfl, ?_⟩
          have hB := HM2.out.below
          rw [Hb.out]
          repeat (first | exact hB | refine Below.setCell ?_ ?_ _ | refine Below.drew ?_ | refine Below.alloc ?_ ?_ _)
          all_goals first | omega | (simp; omega)
      case true =>
        cases pt
        case true =>
          go_wp2
          go_roundw
          case rel => exact ⟨i + 1, by omega, by go_num, by rw [Hkb.out]; rfl, HM2.out.later ((Below.refl _ _).alloc (Nat.le_refl _) _), HK2.out.later ((Below.refl _ _).alloc (Nat.le_refl _) _)⟩
          case measure => simp [intOf]; omega
        case false =>
          have hres : Hid (madeL n truth true kids = (Part.zero, 121)) := by
            show _ = _
            rw [madeL, if_pos (Hko.out (by simp))]
            rfl
          go_wp2
          refine bodyPost_ret (v := .tuple #[.agg #[.bool false, .bool false, .int .u32 0], .int .i64 121]) (by simp [results, Try.results77, go_sem, *]) rfl ⟨by rw [hres.out]; rfl, ?_⟩
          have hB := HM2.out.below
          rw [Hb.out]
          repeat (first | exact hB | refine Below.setCell ?_ ?_ _ | refine Below.drew ?_ | refine Below.alloc ?_ ?_ _)
          all_goals first | omega | (simp; omega)
    · have hin : i = kids.length := by omega
      have hall : kidsBad wants kids = false := by rw [hin, List.take_of_length_le (Nat.le_refl _)] at hbad; exact hbad
      have n0 := hM.kind
      have n0s := World.block_lt_of_cell? wr _ n0
      have nN := hM.node
      have r0 := hM.row0
      have r0s := World.block_lt_of_cell? wr _ r0
      have k0 : wr.cell? ⟨b + 1 + 1, 0, none⟩ = some (.bool false) := cell_of_row wr _ 0 _ _ _ hM.res
      have k1 : wr.cell? ⟨b + 1 + 1, 1, none⟩ = some (.bool false) := cell_of_row wr _ 1 _ _ _ hM.res
      have k2 : wr.cell? ⟨b + 1 + 1, 2, none⟩ = some (.int .u32 0) := cell_of_row wr _ 2 _ _ _ hM.res
      have f0 := frozen_of_row wr (b + 1 + 1) 0 _ _ hM.res
      have f1 := frozen_of_row wr (b + 1 + 1) 1 _ _ hM.res
      have f2 := frozen_of_row wr (b + 1 + 1) 2 _ _ hM.res
      have ks : b + 1 + 1 < wr.heap.size := hM.size
      have HM2 := Lib.hid hM
      have Hb := Lib.hid hb
      have Hall := Lib.hid hall
      have q4 : n.kind = 4 := qk
      have q1 : ¬ n.kind = 1 := by omega
      have qb1 : (n.kind == 1) = false := by simp; omega
      have q5 : ¬ n.kind = 5 := by omega
      have qb5 : (n.kind == 5) = false := by simp; omega
      have hl2 := h4 q4
      obtain rfl := hA (by omega)
      obtain ⟨⟨xt, xc, xv⟩, hx⟩ : ∃ p, kids.getD 0 Part.zero = p := ⟨_, rfl⟩
      obtain ⟨⟨yt, yc, yv⟩, hy⟩ : ∃ p, kids.getD 1 Part.zero = p := ⟨_, rfl⟩
      have c0 : wr.cell? ⟨kb, 0, none⟩ = some (.bool xt) := hK 0 (by omega) 0 _ (by rw [hx]; rfl)
      have c1 : wr.cell? ⟨kb, 1, none⟩ = some (.bool xc) := hK 0 (by omega) 1 _ (by rw [hx]; rfl)
      have c2 : wr.cell? ⟨kb, 2, none⟩ = some (.int .u32 xv) := hK 0 (by omega) 2 _ (by rw [hx]; rfl)
      have d0 : wr.cell? ⟨kb, 3, none⟩ = some (.bool yt) := hK 1 (by omega) 0 _ (by rw [hy]; rfl)
      have d1 : wr.cell? ⟨kb, 4, none⟩ = some (.bool yc) := hK 1 (by omega) 1 _ (by rw [hy]; rfl)
      have d2_ : wr.cell? ⟨kb, 5, none⟩ = some (.int .u32 yv) := hK 1 (by omega) 2 _ (by rw [hy]; rfl)
      have ux : isU32 xv := by
        have := hku (kids[0]'(by omega)) (List.getElem_mem _)
        rwa [show kids[0]'(by omega) = ⟨xt, xc, xv⟩ from by rw [← hx]; simp [List.getD_eq_getElem?_getD, List.getElem?_eq_getElem (show 0 < kids.length by omega)]] at this
      have uy : isU32 yv := by
        have := hku (kids[1]'(by omega)) (List.getElem_mem _)
        rwa [show kids[1]'(by omega) = ⟨yt, yc, yv⟩ from by rw [← hy]; simp [List.getD_eq_getElem?_getD, List.getElem?_eq_getElem (show 1 < kids.length by omega)]] at this
      have HX := Lib.hid ux
      have HY := Lib.hid uy
      have cs : kb < wr.heap.size := World.block_lt_of_cell? wr _ c1
      have z01 : kb < wr.heap.size + 1 := by omega
      have z02 : kb < wr.heap.size + 1 + 1 := by omega
      have z03 : kb < wr.heap.size + 1 + 1 + 1 := by omega
      have z11 : b < wr.heap.size + 1 := by omega
      have z12 : b < wr.heap.size + 1 + 1 := by omega
      have z13 : b < wr.heap.size + 1 + 1 + 1 := by omega
      have z21 : b + 1 < wr.heap.size + 1 := by omega
      have z22 : b + 1 < wr.heap.size + 1 + 1 := by omega
      have z23 : b + 1 < wr.heap.size + 1 + 1 + 1 := by omega
      have z31 : b + 1 + 1 < wr.heap.size + 1 := by omega
      have z32 : b + 1 + 1 < wr.heap.size + 1 + 1 := by omega
      have z33 : b + 1 + 1 < wr.heap.size + 1 + 1 + 1 := by omega
      have qb : (n.kind == 4) = true := by simpa using q4
      have l0 : 0 < kids.length := by omega
      have l1 : 1 < kids.length := by omega
      have l2 : (1 : Int) < (kids.length : Int) := by omega
      have n1 : wr.cell? ⟨b, 1, none⟩ = some (.int .i64 n.op) := by
        have := nodeIn_of nN 1 _ rfl
        rwa [add_plain] at this
      have hmade : madeL n truth wants kids = if (n.op = 4 ∨ n.op = 5) ∧ yc = true ∧ yv = 0 then (⟨truth, false, 0⟩, 123) else if xc = true ∧ yc = true then (⟨truth, true, reckon n.op xv yv⟩, 0) else (⟨truth, false, 0⟩, 0) := by
        rw [madeL, Hall.out, if_neg (by simp), if_neg q1, if_neg q5, if_pos q4, hx, hy]
      have Hmade := Lib.hid hmade
      clear hM hK hbad HM hk h4 h5 hb hall hin q1 q5 q4 hx hy hku ux uy hmade
      have FA := v4_of HM2.out truth yt yc yv xt xc xv
      have FB := v4_of HM2.out truth xt xc xv yt yc yv
      have HFA := Lib.hid FA.right
      have HFB := Lib.hid FB.left
      clear HM2 FA FB
      go_upto_region 16 with fail
      go_cut [11, 12] (fun s11 s12 W => ∃ (p q : Nat), s11 = .pointer (some ⟨p, 0, none⟩) ∧ s12 = .pointer (some ⟨q, 0, none⟩) ∧ X4 w b wr.heap.size p q n truth xc xv yc yv W)
      case first =>
        go_region
        · go_wp2_with fail
          go_meet
          exact ⟨_, _, rfl, rfl, HFA.out⟩
        · go_wp2_with fail
          go_meet
          exact ⟨_, _, rfl, rfl, HFB.out⟩
      case rest =>
        obtain ⟨p, q, rfl, rfl, F⟩ := hcut
        generalize wr.heap.size = S at F ks ⊢
        obtain ⟨v0, v1, v2, y1, y2, x1, x2, m1, w0_, w1_, w2_, g1, g2, p0, p1, p2, out, hrs, HB, hbS⟩ := F
        have vs : S < wc.heap.size := World.block_lt_of_cell? wc _ v0
        have vr : b + 1 + 1 < wc.heap.size := World.block_lt_of_cell? wc _ w0_
        have HVB := Lib.hid HB
        have HRS := Lib.hid hrs
        have HO := Lib.hid out
        clear hrs HB out HFA HFB c0 c1 c2 d0 d1 d2_ k0 k1 k2 f0 f1 f2 nN r0 n1 n0 cs z01 z02 z03 z11 z12 z13 z21 z22 z23 z31 z32 z33 r0s n0s l0 l1 l2 ks
        by_cases o4 : n.op = 4
        case pos =>
          have ob : (n.op == 4) = true := by simpa using o4
          cases yc
          case false =>
            have hres : Hid (madeL n truth wants kids = (⟨truth, false, 0⟩, 0)) := by
              show _ = _
              rw [Hmade.out]
              simp [o4]
            clear o4
            cases xc
            all_goals
              go_wp2_with fail
              refine bodyPost_ret (v := .tuple #[.agg #[.bool truth, .bool false, .int .u32 0], .int .i64 0]) (made_results _ _ _ _ _ _ _ rfl rfl (row3 HRS.out _ _ _)) rfl ⟨by rw [hres.out], ?_⟩
              rw [Hb.out]
              exact ((HVB.out.setCell (by simp; omega) _).setCell (by simp; omega) _).setCell (by simp; omega) _
          by_cases yz : yv = 0
          case pos =>
            have yb : (yv == 0) = true := by simpa using yz
            have hres : Hid (madeL n truth wants kids = (⟨truth, false, 0⟩, 123)) := by
              show _ = _
              rw [Hmade.out]
              simp [o4, yz]
            clear o4 yz
            go_wp2_with fail
            refine bodyPost_ret (v := .tuple #[.agg #[.bool truth, .bool false, .int .u32 0], .int .i64 123]) (made_results _ _ _ _ _ _ _ rfl rfl (row3 HRS.out _ _ _)) rfl ⟨by rw [hres.out], ?_⟩
            rw [Hb.out]
            exact ((HVB.out.setCell (by simp; omega) _).setCell (by simp; omega) _).setCell (by simp; omega) _
          have yb : (yv == 0) = false := by simpa using yz
          cases xc
          case false =>
            have hres : Hid (madeL n truth wants kids = (⟨truth, false, 0⟩, 0)) := by
              show _ = _
              rw [Hmade.out]
              simp [o4, yz]
            clear o4 yz
            go_wp2_with fail
            refine bodyPost_ret (v := .tuple #[.agg #[.bool truth, .bool false, .int .u32 0], .int .i64 0]) (made_results _ _ _ _ _ _ _ rfl rfl (row3 HRS.out _ _ _)) rfl ⟨by rw [hres.out], ?_⟩
            rw [Hb.out]
            exact ((HVB.out.setCell (by simp; omega) _).setCell (by simp; omega) _).setCell (by simp; omega) _
          have hres : Hid (madeL n truth wants kids = (⟨truth, true, reckon n.op xv yv⟩, 0)) := by
            show _ = _
            rw [Hmade.out]
            simp [o4, yz]
          have Hz := Lib.hid (show n.op = 4 ∨ n.op = 5 → yv ≠ 0 from fun _ => yz)
          clear o4 yz
          go_wp2_with fail
          refine (reckon_any _ _ _ HX.out HY.out Hz.out _).mono ?_
          rintro e w2 ⟨rfl, rfl⟩
          go_wp2_with fail
          refine bodyPost_ret (v := .tuple #[.agg #[.bool truth, .bool true, .int .u32 (reckon n.op xv yv)], .int .i64 0]) (made_results _ _ _ _ _ _ _ rfl rfl (row3 ((heap_setCell_other _ _ _ _ (by simp; omega)).trans ((heap_setCell_other _ _ _ _ (by simp; omega)).trans HRS.out)) _ _ _)) rfl ⟨by rw [hres.out], ?_⟩
          rw [Hb.out]
          exact (((((HVB.out.setCell (by simp; omega) _).setCell (by simp; omega) _)).setCell (by simp; omega) _).setCell (by simp; omega) _).setCell (by simp; omega) _
        have ob4 : (n.op == 4) = false := by simpa using o4
        by_cases o5 : n.op = 5
        case pos =>
          have ob : (n.op == 5) = true := by simpa using o5
          cases yc
          case false =>
            have hres : Hid (madeL n truth wants kids = (⟨truth, false, 0⟩, 0)) := by
              show _ = _
              rw [Hmade.out]
              simp [o5]
            clear o4 o5
            cases xc
            all_goals
              go_wp2_with fail
              refine bodyPost_ret (v := .tuple #[.agg #[.bool truth, .bool false, .int .u32 0], .int .i64 0]) (made_results _ _ _ _ _ _ _ rfl rfl (row3 HRS.out _ _ _)) rfl ⟨by rw [hres.out], ?_⟩
              rw [Hb.out]
              exact ((HVB.out.setCell (by simp; omega) _).setCell (by simp; omega) _).setCell (by simp; omega) _
          by_cases yz : yv = 0
          case pos =>
            have yb : (yv == 0) = true := by simpa using yz
            have hres : Hid (madeL n truth wants kids = (⟨truth, false, 0⟩, 123)) := by
              show _ = _
              rw [Hmade.out]
              simp [o5, yz]
            clear o4 o5 yz
            go_wp2_with fail
            refine bodyPost_ret (v := .tuple #[.agg #[.bool truth, .bool false, .int .u32 0], .int .i64 123]) (made_results _ _ _ _ _ _ _ rfl rfl (row3 HRS.out _ _ _)) rfl ⟨by rw [hres.out], ?_⟩
            rw [Hb.out]
            exact ((HVB.out.setCell (by simp; omega) _).setCell (by simp; omega) _).setCell (by simp; omega) _
          have yb : (yv == 0) = false := by simpa using yz
          cases xc
          case false =>
            have hres : Hid (madeL n truth wants kids = (⟨truth, false, 0⟩, 0)) := by
              show _ = _
              rw [Hmade.out]
              simp [o5, yz]
            clear o4 o5 yz
            go_wp2_with fail
            refine bodyPost_ret (v := .tuple #[.agg #[.bool truth, .bool false, .int .u32 0], .int .i64 0]) (made_results _ _ _ _ _ _ _ rfl rfl (row3 HRS.out _ _ _)) rfl ⟨by rw [hres.out], ?_⟩
            rw [Hb.out]
            exact ((HVB.out.setCell (by simp; omega) _).setCell (by simp; omega) _).setCell (by simp; omega) _
          have hres : Hid (madeL n truth wants kids = (⟨truth, true, reckon n.op xv yv⟩, 0)) := by
            show _ = _
            rw [Hmade.out]
            simp [o5, yz]
          have Hz := Lib.hid (show n.op = 4 ∨ n.op = 5 → yv ≠ 0 from fun _ => yz)
          clear o4 o5 yz
          go_wp2_with fail
          refine (reckon_any _ _ _ HX.out HY.out Hz.out _).mono ?_
          rintro e w2 ⟨rfl, rfl⟩
          go_wp2_with fail
          refine bodyPost_ret (v := .tuple #[.agg #[.bool truth, .bool true, .int .u32 (reckon n.op xv yv)], .int .i64 0]) (made_results _ _ _ _ _ _ _ rfl rfl (row3 ((heap_setCell_other _ _ _ _ (by simp; omega)).trans ((heap_setCell_other _ _ _ _ (by simp; omega)).trans HRS.out)) _ _ _)) rfl ⟨by rw [hres.out], ?_⟩
          rw [Hb.out]
          exact (((((HVB.out.setCell (by simp; omega) _).setCell (by simp; omega) _)).setCell (by simp; omega) _).setCell (by simp; omega) _).setCell (by simp; omega) _
        have ob5 : (n.op == 5) = false := by simpa using o5
        cases yc
        case false =>
          have hres : Hid (madeL n truth wants kids = (⟨truth, false, 0⟩, 0)) := by
            show _ = _
            rw [Hmade.out]
            simp [o4, o5]
          clear o4 o5
          cases xc
          all_goals
            go_wp2_with fail
            refine bodyPost_ret (v := .tuple #[.agg #[.bool truth, .bool false, .int .u32 0], .int .i64 0]) (made_results _ _ _ _ _ _ _ rfl rfl (row3 HRS.out _ _ _)) rfl ⟨by rw [hres.out], ?_⟩
            rw [Hb.out]
            exact ((HVB.out.setCell (by simp; omega) _).setCell (by simp; omega) _).setCell (by simp; omega) _
        cases xc
        case false =>
          have hres : Hid (madeL n truth wants kids = (⟨truth, false, 0⟩, 0)) := by
            show _ = _
            rw [Hmade.out]
            simp [o4, o5]
          clear o4 o5
          go_wp2_with fail
          refine bodyPost_ret (v := .tuple #[.agg #[.bool truth, .bool false, .int .u32 0], .int .i64 0]) (made_results _ _ _ _ _ _ _ rfl rfl (row3 HRS.out _ _ _)) rfl ⟨by rw [hres.out], ?_⟩
          rw [Hb.out]
          exact ((HVB.out.setCell (by simp; omega) _).setCell (by simp; omega) _).setCell (by simp; omega) _
        have hres : Hid (madeL n truth wants kids = (⟨truth, true, reckon n.op xv yv⟩, 0)) := by
          show _ = _
          rw [Hmade.out]
          simp [o4, o5]
        have Hz := Lib.hid (show n.op = 4 ∨ n.op = 5 → yv ≠ 0 from fun h => by omega)
        clear o4 o5
        go_wp2_with fail
        refine (reckon_any _ _ _ HX.out HY.out Hz.out _).mono ?_
        rintro e w2 ⟨rfl, rfl⟩
        go_wp2_with fail
        refine bodyPost_ret (v := .tuple #[.agg #[.bool truth, .bool true, .int .u32 (reckon n.op xv yv)], .int .i64 0]) (made_results _ _ _ _ _ _ _ rfl rfl (row3 ((heap_setCell_other _ _ _ _ (by simp; omega)).trans ((heap_setCell_other _ _ _ _ (by simp; omega)).trans HRS.out)) _ _ _)) rfl ⟨by rw [hres.out], ?_⟩
        rw [Hb.out]
        exact (((((HVB.out.setCell (by simp; omega) _).setCell (by simp; omega) _)).setCell (by simp; omega) _).setCell (by simp; omega) _).setCell (by simp; omega) _

theorem made_any (n : Node) (truth wants : Bool) (u f g : Value) (A : Option Addr) (c kb : Nat) (kids : List Part) (w : World) (hA : 0 < kids.length → A = some ⟨kb, 0, none⟩) (hk : KidsAt w kb kids) (hu : u.oneCell' = true) (hf : f.oneCell' = true) (hg : g.oneCell' = true)
    (hm : kids.length ≤ 2) (hku : ∀ p ∈ kids, isU32 p.value) (h5 : n.kind = 5 → 1 ≤ kids.length) (h4 : n.kind = 4 → 2 ≤ kids.length) :
    Calls Try.prog 77 #[.agg (enc n), .agg #[.bool truth, .bool wants, u, f, g], .slice A kids.length c] w fun e w' =>
      e = .returned (.tuple #[.agg #[.bool (madeL n truth wants kids).1.truth, .bool (madeL n truth wants kids).1.constant, .int .u32 (madeL n truth wants kids).1.value], .int .i64 (madeL n truth wants kids).2]) ∧ Below w.heap.size w w' := by
  by_cases q4 : n.kind = 4
  · exact made_4 n truth wants u f g A c kb kids w hA hk hu hf hg hm hku q4 h5 h4
  by_cases q1 : n.kind = 1
  · cases wants
    · exact made_false_1 n truth u f g A c kb kids w hA hk hu hf hg hm hku q1 h5 h4
    · exact made_true_1 n truth u f g A c kb kids w hA hk hu hf hg hm hku q1 h5 h4
  by_cases q5 : n.kind = 5
  · cases wants
    · exact made_false_5 n truth u f g A c kb kids w hA hk hu hf hg hm hku q5 h5 h4
    · exact made_true_5 n truth u f g A c kb kids w hA hk hu hf hg hm hku q5 h5 h4
  · cases wants
    · exact made_false_n n truth u f g A c kb kids w hA hk hu hf hg hm hku ⟨q1, q5, q4⟩ h5 h4
    · exact made_true_n n truth u f g A c kb kids w hA hk hu hf hg hm hku ⟨q1, q5, q4⟩ h5 h4
end Go.Proofs.Ytedhlofmkehfkaa
