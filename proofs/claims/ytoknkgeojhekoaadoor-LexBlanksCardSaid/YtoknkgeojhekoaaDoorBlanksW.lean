/- LexBlanks: the walk. -/
import Derived.Test.YtoknkgeojhekoaaDoorBlanksL
import Derived.Deep.DeepCutAuto
import Derived.Deep.CutBlock
import Derived.IntWalk
namespace Go.Proofs.YtoknkgeojhekoaaDoor
open Go.RowKit Go.Shelf
set_option linter.unusedVariables false
set_option linter.unusedSimpArgs false

def encI (p : Nat) : List Value := [.int .i64 p]
theorem encI_ok : EncOk 1 encI := ⟨fun _ => rfl, fun a v hv => by
  simp only [encI, List.mem_cons, List.not_mem_nil, or_false] at hv
  subst hv
  rfl, by decide⟩
theorem intInfos : (Tryd.prog.info? 3).map (fun i => (i.zero, i.size, i.bytes)) = some (some (.int .i64 0), 1, 8) := by kernel_rfl
/-- A slice of bytes: they lie in a row. -/
def Bys (w : World) (A : Option Addr) (bs : List Int) : Prop := 0 < bs.length → ∃ b o, A = some ⟨b, o, none⟩ ∧ ∀ i, i < bs.length → ∃ x, 0 ≤ x ∧ x ≤ 255 ∧ w.cell? ⟨b, o + i, none⟩ = some (.int .u8 x)
theorem Bys.later {w W : World} {A : Option Addr} {bs : List Int} (h : Bys w A bs) (hb : Below w.heap.size w W) : Bys W A bs := by
  intro hp
  obtain ⟨b, o, e, hn⟩ := h hp
  refine ⟨b, o, e, fun i hi => ?_⟩
  obtain ⟨x, h0, h1, hc⟩ := hn i hi
  exact ⟨x, h0, h1, (hb.cell (p := ⟨b, o + i, none⟩) (World.block_lt_of_cell? w _ hc)).trans hc⟩
def blankAt (d : Nat) : UInt8 := if d = 0 then 9 else if d = 1 then 10 else if d = 2 then 13 else 32
theorem blank_piece (d : Nat) (h : d < 4) : (⟨#[9, 10, 13, 32]⟩ : ByteArray).extract d (d + 1) = ⟨#[blankAt d]⟩ := by
  have h0 : ∀ d : Fin 4, ((⟨#[9, 10, 13, 32]⟩ : ByteArray).extract d.val (d.val + 1)).data.toList = [blankAt d.val] := by decide
  apply ByteArray.ext
  apply Array.toList_inj.1
  exact h0 ⟨d, h⟩
theorem blankAt_blank (d : Nat) : blankB ((blankAt d).toNat : Int) = true := by
  unfold blankAt
  repeat' split
  all_goals decide
set_option maxRecDepth 100000 in
set_option maxHeartbeats 3200000 in
theorem blanks_law (s : ByteArray) (A : Option Addr) (cap : Nat) (ns : List Int) (m : Int) (w : World) (hs : s.size ≤ 140737488351232) (hN : Bys w A ns) (hnil : A = none → cap = 0) (hcap : ns.length ≤ cap) (hr : cap ≤ 140737488351232) (hm : w.cell? ⟨0, 0, none⟩ = some (.int .i64 m)) :
    Calls Tryd.prog 6 #[.string s, .slice A ns.length cap] w fun e w' => e = .returned (.bool true) ∧ Below w.heap.size w w' := by
  have c0 := lex_any s m w (by omega) hm
  have C0 := Lib.hid c0
  have Hm := Lib.hid hm
  have HN := Lib.hid hN
  clear c0 hm hN hnil
  by_cases hgo : 5000 < s.size ∨ ∃ p, lexS s = .error p
  · have hB : ∀ e w', LexPost w (lexS s) e w' → ∃ A n c a k, e = .returned (.tuple #[.slice A n c, .int .i64 a, .int .i64 k]) ∧ Below w.heap.size w w' ∧ ((k == 0) = false ∧ (k != 0) = true ∨ k = 0 ∧ decide ((5000 : Int) < (s.size : Int)) = true) := by
      intro e w' h
      cases hR : lexS s with
      | error p =>
        obtain ⟨h1, h2⟩ := h.bad hR
        exact ⟨_, _, _, _, _, h1, h2, .inl ⟨by rw [beq_eq_false_iff_ne]; exact lexS_err hR, by rw [bne_iff_ne]; exact lexS_err hR⟩⟩
      | ok ts =>
        obtain ⟨g, d, h1, _, h2⟩ := h.good hR
        refine ⟨_, _, _, _, _, h1, h2, .inr ⟨rfl, decide_eq_true ?_⟩⟩
        rcases hgo with h | ⟨p, h⟩
        · omega
        · rw [hR] at h; cases h
    have HB := Lib.hid hB
    clear hB hgo
    go_enter Tryd.func6, Tryd.ntmps6
    go_wp2_with fail
    refine C0.out.mono ?_
    intro e w1 h
    obtain ⟨A', n, c, a, k, rfl, hB1, hk⟩ := HB.out e w1 h
    have c6 := awake_any m w1 (max_later Hm.out hB1)
    have C6 := Lib.hid c6
    have HB1 := Lib.hid hB1
    clear c6 hB1 h
    rcases hk with ⟨hk, hk2⟩ | ⟨rfl, hk2⟩
    all_goals
      go_wp2_with fail
      refine C6.out.mono ?_
      rintro e w7 ⟨rfl, hB7⟩
      have HF := Lib.hid (HB1.out.trans (hB7.mono HB1.out.size))
      clear hB7
      go_wp2_with fail
      go_ret
      exact ⟨rfl, HF.out⟩
  · have hs2 : s.size ≤ 5000 := by
      rcases Nat.lt_or_ge 5000 s.size with h | h
      · exact absurd (.inl h) hgo
      · exact h
    obtain ⟨ts, hR⟩ : ∃ ts, lexS s = .ok ts := by
      cases h : lexS s with
      | error p => exact absurd (.inr ⟨p, h⟩) hgo
      | ok ts => exact ⟨ts, rfl⟩
    have hsd : decide ((5000 : Int) < (s.size : Int)) = false := decide_eq_false (by omega)
    have hL : lexL s.data.toList 0 = .ok ts := by rw [← lexS_of (by omega)]; exact hR
    obtain ⟨us, hts, hok, hus, hul, hsum⟩ := lexL_ok hL
    have hlu : ts.length = us.length + 1 := by rw [hts]; simp
    rw [size_list] at hul hsum
    have hul2 : us.length ≤ 5000 := by omega
    have HR := Lib.hid hR
    have Hts := Lib.hid hts
    have Hok := Lib.hid hok
    have Hlu := Lib.hid hlu
    have Hsum := Lib.hid (show (us.map fun t => t.text.size).sum ≤ 5000 by omega)
    clear hgo hR hL hts hok hus hul hsum hlu hs hs2
    go_enter Tryd.func6, Tryd.ntmps6
    go_wp2_with fail
    refine C0.out.mono ?_
    intro e w1 h
    obtain ⟨g, d, rfl, hO, hB1⟩ := h.good HR.out
    rw [Hlu.out]
    have hrs := hO.is encT_ok
    have hg := (own_lt hO (b := g) rfl).2
    have HB1 := Lib.hid hB1
    have Hrs := Lib.hid hrs
    have HN1 := Lib.hid (HN.out.later hB1)
    clear hO hB1 hrs h
    go_wp2_with fail
    obtain ⟨j0, hi0, hz0, hz1, hz2⟩ := info_parts intInfos
    have Hz0 := Lib.hid hz0
    have Hz1 := Lib.hid hz1
    have Hz2 := Lib.hid hz2
    clear hz0 hz1 hz2
    have hSl : ∃ S : Nat → Nat, S 0 = 0 ∧ (∀ i, S i ≤ 5000) ∧ ∀ i t, ts[i]? = some t → S (i + 1) = S i + t.text.size := by
      refine ⟨fun i => ((ts.map fun t => t.text.size).take i).sum, rfl, fun i => ?_, fun i t h => ?_⟩
      · have h1 := sum_take (ts.map fun t => t.text.size) i
        have h2 := Hsum.out
        rw [Hts.out] at h1 ⊢
        rw [List.map_append, List.sum_append] at h1
        have h3 : ([endT (0 + s.data.toList.length)].map fun t => t.text.size).sum = 0 := rfl
        show ((List.map (fun t => t.text.size) (us ++ [endT (0 + s.data.toList.length)])).take i).sum ≤ 5000
        rw [List.map_append]
        omega
      · exact sum_snoc _ i (by rw [List.getElem?_map, h]; rfl)
    obtain ⟨S, hS0, hS1, hS2⟩ := hSl
    have HS1 := Lib.hid hS1
    have HS2 := Lib.hid hS2
    have HS0 := Lib.hid hS0
    clear hS0 hS1 hS2
    go_loopg [9, 10, 11] (us.length + 1) (fun gk s9 s10 s11 wr => ∃ (i : Nat) (ul : List UInt8) (pl : List Nat), i + gk = us.length + 1 ∧ s11 = .int .i64 i ∧ s9 = .string (bs ul) ∧ OwnG 1 encI 3 wr w1.heap.size s10 pl ∧ pl.length = i ∧ ul.length ≤ 3 * i + S i ∧ Aside (BlkAt us (endT (0 + s.data.toList.length)) i ul pl) ∧ Below w1.heap.size w1 wr)
    case atStart => exact ⟨0, [], [], by omega, rfl, rfl, own_nil _ _ _ _, rfl, by rw [HS0.out]; exact Nat.le_refl _, by
        show BlkAt us (endT (0 + s.data.toList.length)) 0 [] []
        unfold BlkAt
        rw [if_pos (by omega), List.take_zero]
        exact built_nil, Below.refl _ _⟩
    case round =>
      obtain ⟨i, ul, pl, hig, rfl, rfl, hown, hpl, hull, hA, hBr⟩ := hrel
      have HO := Lib.hid hown
      have HBr := Lib.hid hBr
      have HSr := Lib.hid hBr.size
      have Hpl := Lib.hid hpl
      have Hull := Lib.hid hull
      obtain ⟨P10, c10, e10, -⟩ := hown.rs encI_ok
      subst e10
      have q0 : (0 : Int) ≤ (i : Int) := by omega
      clear hown hBr hpl hull
      cases gk with
      | zero =>
        have q1 : ¬ (i : Int) < (us.length : Int) + 1 := by omega
        have hA2 : lexL ul 0 = .ok (moved (us ++ [endT (0 + s.data.toList.length)]) pl) ∧ pl.length = us.length + 1 := by
          have h := hA.out
          unfold BlkAt at h
          rwa [if_neg (by omega)] at h
        have hul : ul.length ≤ 40000 := by
          have h1 := Hull.out
          have h2 := HS1.out i
          omega
        have hlx : lexS (bs ul) = .ok (moved ts pl) := by
          rw [lexS_of (by rw [bs_size]; omega), bs_list, Hts.out]
          exact hA2.1
        have hml : (moved ts pl).length = us.length + 1 := by
          rw [moved_length (by rw [Hlu.out]; exact hA2.2), Hlu.out]
        have hmr := max_later Hm.out (HB1.out.trans (HBr.out.mono HB1.out.size))
        have cl := lex_any (bs ul) m wr (by rw [bs_size]; omega) hmr
        have Cl := Lib.hid cl
        have Hlx := Lib.hid hlx
        have Hml := Lib.hid hml
        have HP := Lib.hid hA2.2
        clear hA2 hA hlx hml hmr cl
        go_wp2_with fail
        refine Cl.out.mono ?_
        intro e w2 h
        obtain ⟨g2, d2, rfl, hO2, hB2⟩ := h.good Hlx.out
        rw [Hml.out]
        have hrs2 := hO2.is encT_ok
        have hg2 := (own_lt hO2 (b := g2) rfl).2
        have hBW := HBr.out.trans (hB2.mono HBr.out.size)
        have hoi : OwnG 1 encI 3 w2 w1.heap.size (.slice P10 pl.length c10) pl := own_below HO.out hB2
        have HBW := Lib.hid hBW
        have Hrs2 := Lib.hid hrs2
        have Hoi := Lib.hid hoi
        have HRw := Lib.hid (Hrs.out.later hBW)
        obtain ⟨gp, cp, ep, _, hgp, _⟩ := hoi.form (by rw [HP.out]; omega)
        obtain ⟨rfl, -, rfl⟩ : P10 = some ⟨gp, 0, none⟩ ∧ pl.length = pl.length ∧ c10 = cp := by
          cases ep
          exact ⟨rfl, rfl, rfl⟩
        have hgw : g < w2.heap.size := by have := HBW.out.size; omega
        clear hO2 hrs2 hBW hoi hB2 h Cl ep
        go_wp2_with fail
        go_loopg [18] (us.length + 1) (fun gk s18 wx => ∃ i : Nat, i + gk = us.length + 1 ∧ s18 = .int .i64 i ∧ Below w2.heap.size w2 wx)
        case atStart => exact ⟨0, by omega, rfl, Below.refl _ _⟩
        case round =>
          obtain ⟨i3, hi3, rfl, hBx⟩ := hrel
          have HBx := Lib.hid hBx
          have HSx := Lib.hid hBx.size
          have z0 : (0 : Int) ≤ (i3 : Int) := by omega
          clear hBx
          cases gk with
          | zero =>
            have z1 : ¬ (i3 : Int) < (us.length : Int) + 1 := by omega
            have hBf := HB1.out.trans ((HBW.out.trans (HBx.out.mono HBW.out.size)).mono HB1.out.size)
            have c6 := awake_any m wr (max_later Hm.out hBf)
            have C6 := Lib.hid c6
            have HBf := Lib.hid hBf
            clear c6 hBf
            go_wp2_with fail
            refine C6.out.mono ?_
            rintro e w7 ⟨rfl, hB7⟩
            have HF := Lib.hid (HBf.out.trans (hB7.mono HBf.out.size))
            clear hB7
            go_wp2_with fail
            go_ret
            exact ⟨rfl, HF.out⟩
          | succ g4 =>
            have z1 : (i3 : Int) < (us.length : Int) + 1 := by omega
            obtain ⟨t, hti⟩ : ∃ t, ts[i3]? = some t := ⟨_, List.getElem?_eq_getElem (by rw [Hlu.out]; omega)⟩
            obtain ⟨p, hpi⟩ : ∃ p, pl[i3]? = some p := ⟨_, List.getElem?_eq_getElem (by rw [HP.out]; omega)⟩
            have hmi := moved_get ts pl i3 t p hti hpi
            obtain ⟨c0, c1, c2, c3⟩ := cells0 (HRw.out.later HBx.out) hti
            obtain ⟨x0, x1, x2, x3⟩ := cells0 (Hrs2.out.later HBx.out) hmi
            have hpc := ((Hoi.out.is encI_ok).later HBx.out).cell encI_ok hpi (j := 0) rfl
            rw [Nat.zero_add, Nat.mul_one, Nat.add_zero] at hpc
            have gx1 : g < wr.heap.size := by have := HSx.out; omega
            have gx2 : g2 < wr.heap.size := by have := HSx.out; omega
            have gx3 : gp < wr.heap.size := by have := HSx.out; omega
            have zp : (i3 : Int) < (pl.length : Int) := by rw [HP.out]; omega
            have t1 : tkB ⟨t.kind, (p : Int), t.text, t.n⟩ ⟨t.kind, (p : Int), t.text, t.n⟩ = true := tkB_self _
            clear hti hpi hmi
            go_wp2_with fail
            go_quiet (fail)
            go_wp2_with fail
            go_roundg g4
            case measure => omega
            case rel => exact ⟨i3 + 1, by omega, by go_num, by first | exact belowN (HBx.out.alloc HSx.out _) _ | exact (HBx.out.alloc HSx.out _)⟩
      | succ g1 =>
        have q1 : (i : Int) < (us.length : Int) + 1 := by omega
        go_upto_if 42 with fail
        go_cut [12] (fun s12 W => ∃ k : Nat, s12 = .int .i64 k ∧ 1 ≤ k ∧ k ≤ 3 ∧ wr = W)
        case first =>
          by_cases hn0 : 0 < ns.length
          · obtain ⟨b, o, rfl, hc⟩ := (HN1.out.later HBr.out) hn0
            obtain ⟨x, x0, x1, hx⟩ := hc (i % ns.length) (Nat.mod_lt _ hn0)
            have r0 : (0 : Int) ≤ (i : Int) % (ns.length : Int) := by
              have : ((i % ns.length : Nat) : Int) = (i : Int) % (ns.length : Int) := by push_cast; rfl
              omega
            have r1 : (i : Int) % (ns.length : Int) < (ns.length : Int) := Int.emod_lt_of_pos _ (by omega)
            have r2 : ((i : Int) % (ns.length : Int)).toNat = i % ns.length := by
              have : ((i % ns.length : Nat) : Int) = (i : Int) % (ns.length : Int) := by push_cast; rfl
              omega
            clear hc
            have hn1 : (0 : Int) < (ns.length : Int) := by omega
            go_wp2_with fail
            go_meet
            exact ⟨(1 + x % 3).toNat, by show Value.int .i64 _ = Value.int .i64 _; congr 1; omega, by omega, by omega, rfl⟩
          · have hn1 : ¬ (0 : Int) < (ns.length : Int) := by omega
            go_wp2_with fail
            go_meet
            exact ⟨1, rfl, by omega, by omega, rfl⟩
        case rest =>
          obtain ⟨k, rfl, hk1, hk3, hw⟩ := hcut
          have HBc : Hid (Below w1.heap.size w1 wc) := Lib.hid (by rw [← hw]; exact HBr.out)
          have HOc : Hid (OwnG 1 encI 3 wc w1.heap.size (.slice P10 pl.length c10) pl) := Lib.hid (by rw [← hw]; exact HO.out)
          have HSc := Lib.hid HBc.out.size
          clear hw
          have k0 : (1 : Int) ≤ (k : Int) := by omega
          have k1 : (k : Int) ≤ 3 := by omega
          have htt : ∃ t, ts[i]? = some t := ⟨_, List.getElem?_eq_getElem (by rw [Hlu.out]; omega)⟩
          obtain ⟨t, hti⟩ := htt
          have Hti := Lib.hid hti
          clear hti
          go_wp2_with fail
          go_loopg [9, 13] k (fun gk s9 s13 wx => ∃ (j : Nat) (bl : List UInt8), j + gk = k ∧ s13 = .int .i64 j ∧ s9 = .string (bs (ul ++ bl)) ∧ bl.length = j ∧ Aside (∀ x ∈ bl, blankB (x.toNat : Int) = true) ∧ wc = wx)
          case atStart => exact ⟨0, [], by omega, rfl, by rw [List.append_nil], rfl, fun x hx => (by cases hx), rfl⟩
          case round =>
            obtain ⟨j, bl, hjk, rfl, rfl, hbl, hbA, rfl⟩ := hrel
            have Hbl := Lib.hid hbl
            have t0 : (0 : Int) ≤ (j : Int) := by omega
            clear hbl
            cases gk with
            | succ g2 =>
              have t1 : (j : Int) < (k : Int) := by omega
              have p0 : (0 : Int) ≤ (j : Int) * (k : Int) := Int.mul_nonneg t0 (by omega)
              have p1 : (j : Int) * (k : Int) ≤ 9 := by
                have h1 : j * k ≤ 3 * 3 := Nat.mul_le_mul (by omega) hk3
                have h2 : ((j * k : Nat) : Int) = (j : Int) * (k : Int) := by push_cast; rfl
                omega
              obtain ⟨D, hD⟩ : ∃ D : Nat, (D : Int) = ((i : Int) + (j : Int) * (k : Int)) % 4 := ⟨(((i : Int) + (j : Int) * (k : Int)) % 4).toNat, by omega⟩
              have d0 : D < 4 := by omega
              have d1 : ((i : Int) + (j : Int) * (k : Int)) % 4 = (D : Int) := hD.symm
              have dp := blank_piece D d0
              have d2 : (0 : Int) ≤ (D : Int) := by omega
              have d3 : (D : Int) ≤ (D : Int) + 1 := by omega
              have d4 : (D : Int) + 1 ≤ 4 := by omega
              have hadd : ∀ W, (Op.stringOp .add (bs (ul ++ bl)) ⟨#[blankAt D]⟩).run Tryd.prog W = .ok (.string (bs (ul ++ (bl ++ [blankAt D])))) W := fun W => add_strs (a := bs (ul ++ bl)) (b := bs [blankAt D]) (by rw [bs_size, bs_size, List.length_append, Hbl.out]; have := Hull.out; have := HS1.out i; simp; omega) (by rw [bs_append, List.append_assoc]) W
              clear hD
              go_wp2_with fail
              go_roundg g2
              case measure => omega
              case rel => exact ⟨j + 1, bl ++ [blankAt D], by omega, by go_num, rfl, by rw [List.length_append, Hbl.out]; rfl, fun x hx => by
                  rcases List.mem_append.1 hx with hx | hx
                  · exact hbA.out x hx
                  · rw [List.mem_singleton.1 hx]; exact blankAt_blank D, by trivial⟩
            | zero =>
              have t1 : ¬ (j : Int) < (k : Int) := by omega
              have hjk2 : j = k := by omega
              have hsz : (bs (ul ++ bl)).size = ul.length + j := by rw [bs_size, List.length_append, Hbl.out]
              have hSz := Lib.hid hsz
              have hlen2 : ul.length + j ≤ 40000 := by
                have h1 := Hull.out
                have h2 := HS1.out i
                omega
              have hadd : ∀ W, (Op.stringOp .add (bs (ul ++ bl)) t.text).run Tryd.prog W = .ok (.string (bs (ul ++ bl ++ t.text.data.toList))) W := fun W => add_strs (by
                have h1 := HS2.out i t Hti.out
                have h2 := HS1.out (i + 1)
                rw [hSz.out]
                omega) (by
                conv => lhs; rw [show t.text = bs t.text.data.toList from by simp [bs]]
                rw [bs_append]) W
              have HO2 := Lib.hid (show (wc.alloc (.cells (flatG encI [(bs (ul ++ bl)).size]).toArray 3)).ownsRow w1.heap.size 3 1 (.slice P10 pl.length c10) pl.length (flatG encI pl) from own_below HOc.out ((Below.refl _ wc).alloc (Nat.le_refl _) _))
              have hx := heap_alloc_new wc (.cells (flatG encI [(bs (ul ++ bl)).size]).toArray 3)
              have Hx := Lib.hid (rs_news hx)
              have hpl2 : pl.length ≤ 5001 := by have := Hpl.out; omega
              clear hx hsz hjk2
              go_wp2_with (at_builtin; refine wpList_append_lies _ rfl _ _ 35 rfl w1.heap.size 3 j0 (.int .i64 0) 1 8 Tryd.underlying35 hi0 Hz0.out Hz1.out Hz2.out rfl (by decide) (.slice P10 pl.length c10) pl.length (flatG encI pl) rfl HO2.out ⟨wc.heap.size, 0, none⟩ 1 1 (flatG encI [(bs (ul ++ bl)).size]) rfl rfl Hx.out (flatG_one encI_ok _) (by decide) (by simp only [maxLen]; omega) (by omega) (by have := HSc.out; simp; omega) (wc.heap.size + 1) (by simp) ?_; intro g2 cap2 w2 hown2 hgrow hat2 hlt2; have HBg := Lib.hid ((HBc.out.alloc HSc.out _).grown hgrow (by have := HSc.out; simp; omega) (fun k e => (own_lt HOc.out e).1)); have Hown2 := Lib.hid hown2; obtain ⟨c0, c1, c2, c3⟩ := cells0 (Hrs.out.later HBg.out) Hti.out; clear hown2 hgrow hat2 hlt2)
              go_roundg g1
              case measure => omega
              case rel => exact ⟨i + 1, ul ++ bl ++ t.text.data.toList, pl ++ [(bs (ul ++ bl)).size], by omega, by go_num, by first | rfl | rw [List.append_assoc], by
                  unfold OwnG
                  rw [List.length_append, flatG_append]
                  exact Hown2.out, by rw [List.length_append, Hpl.out]; rfl, by
                  have h1 := Hull.out
                  have h2 := HS2.out i t Hti.out
                  rw [h2, List.length_append, List.length_append, Hbl.out, size_list]
                  omega, by
                  show BlkAt us _ (i + 1) _ _
                  rw [bs_size]
                  exact blk_step hA.out (by omega) (by have := Hti.out; rw [Hts.out] at this; exact this) Hok.out ⟨rfl, rfl, rfl⟩ hbA.out (by rw [Hbl.out]; omega), HBg.out⟩
end Go.Proofs.YtoknkgeojhekoaaDoor
