/- TypesParts: the walk. -/
import Derived.Test.YtedhlofmkehfkaaRefParts
import Derived.Test.YtedhlofmkehfkaaFirstW
namespace Go.Proofs.Ytedhlofmkehfkaa
open Go.RowKit Go.Shelf
set_option linter.unusedVariables false
set_option linter.unusedSimpArgs false

theorem getD_memP {ls : List (List Node)} {i : Nat} (hi : i < ls.length) : ls.getD i [] ∈ ls := by
  rw [List.getD_eq_getElem?_getD, List.getElem?_eq_getElem hi]
  exact List.getElem_mem hi
theorem part_lenP {ls : List (List Node)} {p : List Node} (h : p ∈ ls) : p.length ≤ ls.flatten.length := by
  obtain ⟨s, t, rfl⟩ := List.append_of_mem h
  simp
  omega
/-- The parts that a call has handed out. -/
structure Got (w : World) (base : Nat) (PA : Option Addr) (ls : List (List Node)) (g : Nat) (gs : List (Nat × Nat)) : Prop where
  at_ : 0 < ls.length → PA = some ⟨g, 0, none⟩
  own : 0 < ls.length → OwnNN w base g ls gs
theorem OwnNN.lt_g {w : World} {base g : Nat} {ls : List (List Node)} {gs : List (Nat × Nat)} (h : OwnNN w base g ls gs) (hp : 0 < ls.length) : g < w.heap.size := World.block_lt_of_cell? w _ (h.row 0 hp)
theorem OwnNN.lt_i {w : World} {base g i : Nat} {ls : List (List Node)} {gs : List (Nat × Nat)} (h : OwnNN w base g ls gs) (hi : i < ls.length) : base ≤ (gs.getD i (0, 0)).1 ∧ (gs.getD i (0, 0)).1 < w.heap.size := own_lt (h.own i hi) rfl
theorem OwnNN.later {w W : World} {base g : Nat} {ls : List (List Node)} {gs : List (Nat × Nat)} (h : OwnNN w base g ls gs) (hb : Below w.heap.size w W) : OwnNN W base g ls gs :=
  ⟨h.len, h.lt, fun i hi => (hb.cell (World.block_lt_of_cell? w _ (h.row i hi))).trans (h.row i hi), fun i hi => own_later (h.own i hi) fun b hh => hb.block b (own_lt (h.own i hi) hh).2, h.apart, h.apart2⟩
theorem Got.later {w W : World} {base g : Nat} {PA : Option Addr} {ls : List (List Node)} {gs : List (Nat × Nat)} (h : Got w base PA ls g gs) (hb : Below w.heap.size w W) : Got W base PA ls g gs :=
  ⟨h.at_, fun hp => (h.own hp).later hb⟩
theorem OwnNN.grown {w W : World} {base g x : Nat} {ls : List (List Node)} {gs : List (Nat × Nat)} (h : OwnNN w base g ls gs) (hg : w.grownBy W (some x)) (hx : x < base) : OwnNN W base g ls gs := by
  have hb : ∀ b, b < w.heap.size → base ≤ b → W.heap[b]? = w.heap[b]? := fun b hl hh => hg.block b hl fun e => by cases e; omega
  exact ⟨h.len, h.lt, fun i hi => (World.cell?_of_block (w := w) (a := ⟨g, i, none⟩) (hb g (World.block_lt_of_cell? w _ (h.row i hi)) h.lt)).trans (h.row i hi), fun i hi => own_later (h.own i hi) fun b hh => hb b (own_lt (h.own i hi) hh).2 (own_lt (h.own i hi) hh).1, h.apart, h.apart2⟩
theorem Got.grown {w W : World} {base g x : Nat} {PA : Option Addr} {ls : List (List Node)} {gs : List (Nat × Nat)} (h : Got w base PA ls g gs) (hg : w.grownBy W (some x)) (hx : x < base) : Got W base PA ls g gs :=
  ⟨h.at_, fun hp => (h.own hp).grown hg hx⟩
/-- Where the blocks lie. -/
structure Lie (ls : List (List Node)) (lo hi g : Nat) (gs : List (Nat × Nat)) : Prop where
  g : 0 < ls.length → lo ≤ g ∧ g < hi
  gs : ∀ i, i < ls.length → lo ≤ (gs.getD i (0, 0)).1 ∧ (gs.getD i (0, 0)).1 < hi
theorem Got.lie {w : World} {base g : Nat} {PA : Option Addr} {ls : List (List Node)} {gs : List (Nat × Nat)} (h : Got w base PA ls g gs) : Lie ls base w.heap.size g gs :=
  ⟨fun hp => ⟨(h.own hp).lt, (h.own hp).lt_g hp⟩, fun i hi => (h.own (by omega)).lt_i hi⟩
/-- What stands from a world on, but for some blocks. -/
structure Inv (w0 wr : World) (bad : Nat → Prop) : Prop where
  size : w0.heap.size ≤ wr.heap.size
  same : ∀ b, b < w0.heap.size → ¬ bad b → wr.heap[b]? = w0.heap[b]?
theorem Inv.refl {w0 : World} {bad : Nat → Prop} : Inv w0 w0 bad := ⟨Nat.le_refl _, fun _ _ _ => rfl⟩
theorem Inv.later {w0 wr W : World} {bad : Nat → Prop} (h : Inv w0 wr bad) (hb : Below wr.heap.size wr W) : Inv w0 W bad :=
  ⟨Nat.le_trans h.size hb.size, fun b hl hn => (hb.block b (Nat.lt_of_lt_of_le hl h.size)).trans (h.same b hl hn)⟩
theorem Inv.grown {w0 wr W : World} {bad bad2 : Nat → Prop} {x : Nat} (h : Inv w0 wr bad) (hg : wr.grownBy W (some x)) (h1 : ∀ b, bad b → bad2 b) (h2 : bad2 x) : Inv w0 W bad2 :=
  ⟨Nat.le_trans h.size hg.size, fun b hl hn => (hg.block b (Nat.lt_of_lt_of_le hl h.size) fun e => hn (by cases e; exact h2)).trans (h.same b hl fun hb => hn (h1 b hb))⟩
theorem Got.fetch {w0 wr : World} {base g i : Nat} {PA : Option Addr} {ls : List (List Node)} {gs : List (Nat × Nat)} {bad : Nat → Prop} (h : Got w0 base PA ls g gs) (hI : Inv w0 wr bad) (hi : i < ls.length) (h1 : ¬ bad g) (h2 : ¬ bad (gs.getD i (0, 0)).1) :
    PA = some ⟨g, 0, none⟩ ∧ wr.cell? ⟨g, i, none⟩ = some (.slice (some ⟨(gs.getD i (0, 0)).1, 0, none⟩) (ls.getD i []).length (gs.getD i (0, 0)).2) ∧ OwnN wr base (.slice (some ⟨(gs.getD i (0, 0)).1, 0, none⟩) (ls.getD i []).length (gs.getD i (0, 0)).2) (ls.getD i []) := by
  have hp : 0 < ls.length := by omega
  have ho := h.own hp
  refine ⟨h.at_ hp, (World.cell?_of_block (w := w0) (a := ⟨g, i, none⟩) (hI.same g (ho.lt_g hp) h1)).trans (ho.row i hi), own_later (ho.own i hi) fun b hb => ?_⟩
  cases hb
  exact hI.same _ (ho.lt_i hi).2 h2
def partsL (ns : List Node) : List (List Node) := (partsT ns).getD []
def partsO (ns : List Node) : Bool := (partsT ns).isSome
theorem got_parts {w' : World} {base : Nat} {ns : List Node} {e : Ending} (h : (partsT ns = none ∧ e = .returned (.tuple #[.slice none 0 0, .bool false])) ∨
       (partsT ns = some [] ∧ e = .returned (.tuple #[.slice none 0 0, .bool true])) ∨
       (∃ ls g cap gs, partsT ns = some ls ∧ 0 < ls.length ∧ e = .returned (.tuple #[.slice (some ⟨g, 0, none⟩) ls.length cap, .bool true]) ∧ OwnNN w' base g ls gs)) :
    ∃ PA pc g gs, e = .returned (.tuple #[.slice PA (partsL ns).length pc, .bool (partsO ns)]) ∧ Got w' base PA (partsL ns) g gs := by
  unfold partsL partsO
  rcases h with ⟨h, rfl⟩ | ⟨h, rfl⟩ | ⟨ls, g, cap, gs, h, hp, rfl, ho⟩
  · rw [h]
    exact ⟨none, 0, 0, [], rfl, ⟨(fun hh => by cases hh), (fun hh => by cases hh)⟩⟩
  · rw [h]
    exact ⟨none, 0, 0, [], rfl, ⟨(fun hh => by cases hh), (fun hh => by cases hh)⟩⟩
  · rw [h]
    exact ⟨_, cap, g, gs, rfl, ⟨fun _ => rfl, fun _ => ho⟩⟩
theorem keepS {V V' wr : World} {a c : Addr} {v x : Value} (h : V.cell? a = some v ∧ V.cell? c = some x ∧ Below wr.heap.size wr V) (hb : Below V.heap.size V V') : V'.cell? a = some v ∧ V'.cell? c = some x ∧ Below wr.heap.size wr V' :=
  ⟨(hb.cell (World.block_lt_of_cell? V _ h.1)).trans h.1, (hb.cell (World.block_lt_of_cell? V _ h.2.1)).trans h.2.1, h.2.2.trans (hb.mono h.2.2.size)⟩
set_option maxRecDepth 100000 in
set_option maxHeartbeats 3200000 in
theorem partslaw_any (A : Option Addr) (c : Nat) (ns : List Node) (w : World) (hA : Ns w A ns) (hok : NodesOk ns) (hnA : A = none → c = 0) (hcA : ns.length ≤ c) (hrA : c ≤ 1954687338211) :
    Calls Try.prog 5 #[.slice A ns.length c] w fun e w' => e = .returned (.bool true) ∧ Below w.heap.size w w' := by
  have HA := Lib.hid hA
  have Hok := Lib.hid hok
  have Hn := Lib.hid hnA
  have hl2 : ns.length ≤ 1954687338211 := by omega
  have Hlen := Lib.hid hok.len
  clear hA hok hnA hrA
  go_enter Try.func5, Try.ntmps5
  go_wp2_with fail
  refine (refparts_any A c ns w HA.out (by omega) hcA).mono ?_
  rintro e w1 ⟨hB1, hres⟩
  obtain ⟨PW, pcW, gW, gsW, rfl, hGW⟩ := got_parts hres
  have HB1 := Lib.hid hB1
  have HGW := Lib.hid hGW
  clear hres hB1 hGW
  obtain ⟨ls, hls⟩ : ∃ l, partsL ns = l := ⟨_, rfl⟩
  obtain ⟨ob, hob⟩ : ∃ l, partsO ns = l := ⟨_, rfl⟩
  rw [hls, hob]
  rw [hls] at HGW
  have Hls := Lib.hid hls
  have Hob := Lib.hid hob
  clear hls hob
  go_wp2_with fail
  refine (lend_any A c ns w1 (HA.out.later HB1.out) Hlen.out Hn.out).mono ?_
  rintro e w2 ⟨gL, cL, rfl, hownL, hB2⟩
  have HL := Lib.hid hownL
  have HB2 := Lib.hid hB2
  clear hownL hB2
  have hcL : ns.length + 3 ≤ cL := by have := HL.out.capLe; simpa using this
  have hNL : Ns w2 (some ⟨gL, 0, none⟩) ns := by
    have h := HL.out.is
    have := h.prefix ns.length
    rwa [List.take_left] at this
  have HNL := Lib.hid hNL
  clear hNL
  go_wp2_with fail
  refine (parts_any (some ⟨gL, 0, none⟩) cL ns w2 HNL.out (by omega) (by omega)).mono ?_
  rintro e w3 ⟨hB3, hres⟩
  obtain ⟨PX, pcX, gX, gsX, rfl, hGX⟩ := got_parts hres
  rw [Hls.out, Hob.out]
  rw [Hls.out] at hGX
  have HGX := Lib.hid hGX
  have HB3 := Lib.hid hB3
  clear hres hGX hB3
  go_wp2_with fail
  refine (kept_any w1.heap.size gL cL A c ns w3 (own_later HL.out fun b hb => HB3.out.block b (own_lt HL.out hb).2) (((HA.out.later HB1.out).later HB2.out).later HB3.out) Hlen.out).mono ?_
  rintro e w4 ⟨rfl, hG4⟩
  have HG4 := Lib.hid hG4
  clear hG4
  have hqL := own_lt HL.out (b := gL) rfl
  have hB4 : Below w1.heap.size w3 w4 := (Below.refl w1.heap.size w3).grown HG4.out (Nat.le_trans HB2.out.size HB3.out.size) fun k e => by cases e; exact hqL.1
  have hB14 : Below w1.heap.size w1 w4 := (HB2.out.trans (HB3.out.mono HB2.out.size)).trans hB4
  have hGX4 : Got w4 w2.heap.size PX ls gX gsX := HGX.out.grown HG4.out hqL.2
  have HGX4 := Lib.hid hGX4
  have HGW4 := Lib.hid (HGW.out.later hB14)
  have HA4 := Lib.hid ((HA.out.later HB1.out).later hB14)
  have HB14 := Lib.hid hB14
  have HB4 := Lib.hid (HB1.out.trans (hB14.mono HB1.out.size))
  have LW := Lib.hid HGW.out.lie
  have LX := Lib.hid HGX.out.lie
  have S12 := Lib.hid HB2.out.size
  have S34 := Lib.hid HG4.out.size
  clear hqL hB4 hB14 hGX4 HL HNL hcL HGX HGW HG4 HB3 HB2
  go_wp2_with fail
  refine (copy_any A c ns w4 HA4.out Hlen.out Hn.out).mono ?_
  rintro e w5 ⟨gC, cC, rfl, hownC, hB5⟩
  have HC := Lib.hid hownC
  have HB5 := Lib.hid hB5
  clear hownC hB5
  go_wp2_with fail
  refine (parts_any (some ⟨gC, 0, none⟩) cC ns w5 HC.out.is (by omega) HC.out.capLe).mono ?_
  rintro e w6 ⟨hB6, hres⟩
  obtain ⟨PY, pcY, gY, gsY, rfl, hGY⟩ := got_parts hres
  rw [Hls.out, Hob.out]
  rw [Hls.out] at hGY
  have LY := Lib.hid hGY.lie
  have HGY := Lib.hid hGY
  have hB46 : Below w4.heap.size w4 w6 := HB5.out.trans (hB6.mono HB5.out.size)
  have HGX6 := Lib.hid (HGX4.out.later hB46)
  have HGW6 := Lib.hid (HGW4.out.later hB46)
  have HB6 := Lib.hid (HB4.out.trans (hB46.mono HB4.out.size))
  have S45 := Lib.hid HB5.out.size
  have hlp : ∀ i, i < ls.length → (ls.getD i []).length ≤ ns.length := by
    intro i hi
    have h0 := Hls.out
    unfold partsL at h0
    cases hp : partsT ns with
    | none => rw [hp] at h0; subst h0; cases hi
    | some l =>
      rw [hp] at h0
      have h0 : l = ls := h0
      subst h0
      have h1 := (parts_shape hp).2.2.2
      have h2 := part_lenP (getD_memP hi)
      have h3 := congrArg List.length h1
      rw [List.length_append] at h3
      omega
  have hll : (ls.length : Int) ≤ 2 := by
    have h0 := Hls.out
    unfold partsL at h0
    cases hp : partsT ns with
    | none => rw [hp] at h0; subst h0; decide
    | some l =>
      rw [hp] at h0
      have h0 : l = ls := h0
      subst h0
      have := (parts_shape hp).2.1
      omega
  have Hlp := Lib.hid hlp
  have S16 := Lib.hid (show w1.heap.size ≤ w6.heap.size by have := HB14.out.size; have := hB46.size; omega)
  clear hres hGY hB46 hB6 hlp HC
  go_wp2_with fail
  go_loopw [10] (fun x wr => ∃ i : Nat, i ≤ ls.length ∧ x = .int .i64 i ∧ Inv w6 wr (fun b => ∃ j, j < i ∧ b = (gsX.getD j (0, 0)).1) ∧ Below w.heap.size w wr) (fun x _ => ls.length - (intOf x).toNat)
  case atStart => exact ⟨0, by omega, rfl, Inv.refl, HB6.out⟩
  case round =>
    obtain ⟨i, hi, rfl, hI, hB⟩ := hrel
    have HI := Lib.hid hI
    have HB := Lib.hid hB
    clear hI hB
    by_cases hlt : i < ls.length
    · have hp0 : 0 < ls.length := by omega
      have oX := HGX6.out.own hp0
      have hlx := LX.out.gs i hlt
      have hbx : ∀ j, j < i → w2.heap.size ≤ (gsX.getD j (0, 0)).1 := fun j hj => (LX.out.gs j (by omega)).1
      have s12 := S12.out
      obtain ⟨rfl, cx, ox⟩ := HGX6.out.fetch HI.out hlt (fun ⟨j, hj, e⟩ => oX.apart j (by omega) e.symm) (fun ⟨j, hj, e⟩ => oX.apart2 i j hlt (by omega) (by omega) e)
      obtain ⟨rfl, cw, ow⟩ := HGW6.out.fetch HI.out hlt (fun ⟨j, hj, e⟩ => by have := (LW.out.g hp0).2; have := hbx j hj; omega) (fun ⟨j, hj, e⟩ => by have := (LW.out.gs i hlt).2; have := hbx j hj; omega)
      have hpl := Hlp.out i hlt
      obtain ⟨p, hp⟩ : ∃ p, ls.getD i [] = p := ⟨_, rfl⟩
      rw [hp] at cx ox cw ow hpl
      obtain ⟨x1, hx1⟩ : ∃ x, (gsX.getD i (0, 0)).1 = x := ⟨_, rfl⟩
      obtain ⟨x2, hx2⟩ : ∃ x, (gsX.getD i (0, 0)).2 = x := ⟨_, rfl⟩
      obtain ⟨y1, hy1⟩ : ∃ x, (gsW.getD i (0, 0)).1 = x := ⟨_, rfl⟩
      obtain ⟨y2, hy2⟩ : ∃ x, (gsW.getD i (0, 0)).2 = x := ⟨_, rfl⟩
      rw [hx1, hx2] at cx ox
      rw [hy1, hy2] at cw ow
      have Hx1 := Lib.hid hx1
      have Ox := Lib.hid ox
      have Nx := Lib.hid ox.is
      have Nw := Lib.hid ow.is
      have Hpl := Lib.hid (show p.length ≤ 2000000000000 by omega)
      have Hpl2 := Lib.hid (show p.length ≤ 1954687338263 by omega)
      have Cx := Lib.hid cx
      have hlx2 : w.heap.size ≤ x1 := by rw [← hx1]; have := HB4.out.size; have := HB1.out.size; omega
      have Hlx2 := Lib.hid hlx2
      have Hlt := Lib.hid hlt
      have i5 : (i : Int) < (ls.length : Int) := by omega
      have i6 : (0 : Int) ≤ (i : Int) := by omega
      have hss : decide (p = p) = true := decide_eq_true rfl
      have Hss := Lib.hid hss
      clear oX hlx hbx s12 hp hx1 hx2 hy1 hy2 ox ow hpl hlx2 hlt hi hp0 hss
      go_upto_region 12 with fail
      go_cut [71] (fun s71 W => s71 = .bool false ∧ Below wr.heap.size wr W)
      case first =>
        go_region_held3 (fun w' => w'.cell? ⟨gX, i, none⟩ = some (.slice (some ⟨x1, 0, none⟩) p.length x2) ∧ w'.cell? ⟨gW, i, none⟩ = some (.slice (some ⟨y1, 0, none⟩) p.length y2) ∧ Below wr.heap.size wr w')
          (first | exact ⟨cx, cw, (Below.refl _ _).drew⟩ | exact keepS (by assumption) (by assumption) | assumption)
          (first | (go_at_call 23; refine (same_any _ _ _ _ p p _ (Nx.out.later (last3 (by assumption))) (Nw.out.later (last3 (by assumption))) Hpl.out Hpl.out).mono ?_; rw [Hss.out]; rintro e V5 ⟨rfl, hV5⟩))
        all_goals
          rename_i hHH
          go_wp2_with fail
          go_meet
          exact ⟨rfl, hHH.2.2⟩
      case rest =>
        obtain ⟨rfl, hBc⟩ := hcut
        have HBc := Lib.hid hBc
        have cx2 := (hBc.cell (World.block_lt_of_cell? _ _ Cx.out)).trans Cx.out
        have Ox2 := Lib.hid (show OwnN wc w2.heap.size (.slice (some ⟨x1, 0, none⟩) p.length x2) p from own_later Ox.out fun b hb => hBc.block b (own_lt Ox.out hb).2)
        clear hBc cx cw
        go_wp2_with fail
        refine (spoil_any w2.heap.size (some ⟨x1, 0, none⟩) p.length x2 (flat p) wc Ox2.out Hpl2.out).mono ?_
        rintro e w9 ⟨rfl, hG9⟩
        have HG9 := Lib.hid (show wc.grownBy w9 (some x1) from hG9)
        clear hG9
        go_wp2_with fail
        go_round
        case rel =>
          have := Hlt.out
          refine ⟨i + 1, by omega, by go_num, Inv.grown (HI.out.later HBc.out) HG9.out (fun b ⟨j, hj, e⟩ => ⟨j, by omega, e⟩) ⟨i, by omega, Hx1.out.symm⟩, ?_⟩
          have hb1 := HB.out.trans (HBc.out.mono HB.out.size)
          exact hb1.grown HG9.out hb1.size fun k e => by cases e; exact Hlx2.out
        case measure => have := Hlt.out; simp [intOf]; omega
    · have hj : ¬ (i : Int) < (ls.length : Int) := by omega
      have hie : i = ls.length := by omega
      subst hie
      have HI0 := Lib.hid HI.out
      clear HI hi hlt
      go_wp2_with fail
      go_loopw [11] (fun x wq => ∃ i : Nat, i ≤ ls.length ∧ x = .int .i64 i ∧ Inv w6 wq (fun b => ∃ j, j < ls.length ∧ b = (gsX.getD j (0, 0)).1) ∧ Below w.heap.size w wq) (fun x _ => ls.length - (intOf x).toNat)
      case atStart => exact ⟨0, by omega, rfl, HI0.out, HB.out⟩
      case round =>
        obtain ⟨i, hi, rfl, hI, hB⟩ := hrel
        have HI := Lib.hid hI
        have HB2 := Lib.hid hB
        clear hI hB
        by_cases hlt : i < ls.length
        · have hp0 : 0 < ls.length := by omega
          have hbx : ∀ j, j < ls.length → w2.heap.size ≤ (gsX.getD j (0, 0)).1 ∧ (gsX.getD j (0, 0)).1 < w3.heap.size := fun j hj => LX.out.gs j hj
          have s12 := S12.out
          have s34 := S34.out
          have s45 := S45.out
          obtain ⟨rfl, cx, ox⟩ := HGY.out.fetch HI.out hlt (fun ⟨j, hj, e⟩ => by have := (LY.out.g hp0).1; have := (hbx j hj).2; omega) (fun ⟨j, hj, e⟩ => by have := (LY.out.gs i hlt).1; have := (hbx j hj).2; omega)
          obtain ⟨rfl, cw, ow⟩ := HGW6.out.fetch HI.out hlt (fun ⟨j, hj, e⟩ => by have := (LW.out.g hp0).2; have := (hbx j hj).1; omega) (fun ⟨j, hj, e⟩ => by have := (LW.out.gs i hlt).2; have := (hbx j hj).1; omega)
          have hpl := Hlp.out i hlt
          obtain ⟨p, hp⟩ : ∃ p, ls.getD i [] = p := ⟨_, rfl⟩
          rw [hp] at cx ox cw ow hpl
          obtain ⟨x1, hx1⟩ : ∃ x, (gsY.getD i (0, 0)).1 = x := ⟨_, rfl⟩
          obtain ⟨x2, hx2⟩ : ∃ x, (gsY.getD i (0, 0)).2 = x := ⟨_, rfl⟩
          obtain ⟨y1, hy1⟩ : ∃ x, (gsW.getD i (0, 0)).1 = x := ⟨_, rfl⟩
          obtain ⟨y2, hy2⟩ : ∃ x, (gsW.getD i (0, 0)).2 = x := ⟨_, rfl⟩
          rw [hx1, hx2] at cx ox
          rw [hy1, hy2] at cw ow
          have Nx := Lib.hid ox.is
          have Nw := Lib.hid ow.is
          have Hpl := Lib.hid (show p.length ≤ 2000000000000 by omega)
          have Hlt := Lib.hid hlt
          have i5 : (i : Int) < (ls.length : Int) := by omega
          have i6 : (0 : Int) ≤ (i : Int) := by omega
          have hss : decide (p = p) = true := decide_eq_true rfl
          have Hss := Lib.hid hss
          clear hbx s12 s34 s45 hp hx1 hx2 hy1 hy2 ox ow hpl hlt hi hp0 hss hj
          go_upto_region 18 with fail
          go_cut [92] (fun s92 W => s92 = .bool false ∧ Below wr.heap.size wr W)
          case first =>
            go_region_held3 (fun w' => w'.cell? ⟨gY, i, none⟩ = some (.slice (some ⟨x1, 0, none⟩) p.length x2) ∧ w'.cell? ⟨gW, i, none⟩ = some (.slice (some ⟨y1, 0, none⟩) p.length y2) ∧ Below wr.heap.size wr w')
              (first | exact ⟨cx, cw, (Below.refl _ _).drew⟩ | exact keepS (by assumption) (by assumption) | assumption)
              (first | (go_at_call 23; refine (same_any _ _ _ _ p p _ (Nx.out.later (last3 (by assumption))) (Nw.out.later (last3 (by assumption))) Hpl.out Hpl.out).mono ?_; rw [Hss.out]; rintro e V5 ⟨rfl, hV5⟩))
            all_goals
              rename_i hHH
              go_wp2_with fail
              go_meet
              exact ⟨rfl, hHH.2.2⟩
          case rest =>
            obtain ⟨rfl, hBc⟩ := hcut
            have HBc := Lib.hid hBc
            clear hBc cx cw
            go_wp2_with fail
            go_round
            case rel =>
              have := Hlt.out
              exact ⟨i + 1, by omega, by go_num, HI.out.later HBc.out, HB2.out.trans (HBc.out.mono HB2.out.size)⟩
            case measure => have := Hlt.out; simp [intOf]; omega
        · have hj2 : ¬ (i : Int) < (ls.length : Int) := by omega
          clear hlt hi hj
          go_wp2_with fail
          refine (awake_any _).mono ?_
          rintro e w13 ⟨rfl, hb13⟩
          have HBz := Lib.hid (HB2.out.trans (hb13.mono HB2.out.size))
          clear hb13
          go_wp2_with fail
          go_ret
          exact ⟨rfl, HBz.out⟩
end Go.Proofs.Ytedhlofmkehfkaa
