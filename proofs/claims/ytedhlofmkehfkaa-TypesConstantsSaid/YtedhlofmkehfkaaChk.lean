/- types.Check, types.Constant, types.Weight. -/
import Derived.Test.YtedhlofmkehfkaaThru
namespace Go.Proofs.Ytedhlofmkehfkaa
open Go.RowKit Go.Shelf
set_option linter.unusedVariables false
set_option linter.unusedSimpArgs false

/-- The weights of a list, one behind the other: where they are more than may be. -/
def weighT : List Node → Int → Int → Int × Int
  | [], _, _ => (0, 0)
  | n :: ns, at_, s => if s + weightI n.kind n > 3000 then (at_, 126) else weighT ns (at_ + 1) (s + weightI n.kind n)
def checkT (ns : List Node) : Int × Int :=
  if (runT ns 0 [] []).2.1 ≠ 0 then ((runT ns 0 [] []).1, (runT ns 0 [] []).2.1)
  else if ((runT ns 0 [] []).2.2.2.getD (ns.length - 1) Part.zero).truth = false then ((ns.length : Int) - 1, 121)
  else weighT ns 0 0
def constT (ns : List Node) : Int × Bool :=
  if (runT ns 0 [] []).2.1 ≠ 0 then (0, false)
  else if ((runT ns 0 [] []).2.2.2.getD (ns.length - 1) Part.zero).constant = false then (0, false)
  else (((runT ns 0 [] []).2.2.2.getD (ns.length - 1) Part.zero).value, true)
theorem byI_range (four six : Int) (h4 : 0 ≤ four ∧ four ≤ 80) (h6 : 0 ≤ six ∧ six ≤ 80) (n : Node) : 0 ≤ byI four six n ∧ byI four six n ≤ 80 := by
  unfold byI
  split <;> assumption
@[go_sem] theorem run_field4 (w : World) (a b c d : Value) (f : Fn) (cs : Array Value) : (Instr.field 64 (.agg #[a, b, c, d, .func f #[] cs]) 4).run Try.prog w = .ok (.func f #[] cs) w := by
  simp [Instr.field, go_sem, asAgg]
theorem range_ite {c : Prop} [Decidable c] {a b : Int} (h1 : 0 ≤ a ∧ a ≤ 80) (h2 : 0 ≤ b ∧ b ≤ 80) : 0 ≤ (if c then a else b) ∧ (if c then a else b) ≤ 80 := by
  split <;> assumption
theorem weightI_range (k : Int) (n : Node) : 0 ≤ weightI k n ∧ weightI k n ≤ 80 := by
  unfold weightI
  iterate 13 (refine range_ite (by decide) ?_)
  exact range_ite (byI_range _ _ (by decide) (by decide) n) (range_ite (byI_range _ _ (by decide) (by decide) n) (range_ite (by decide) (by decide)))
theorem stepT_kind {n : Node} {st : List Int} {ps : List Part} (h : (stepT n st ps).1 = 0) : ∃ a, arityK n.kind = some a := by
  unfold stepT at h
  cases ha : arityK n.kind with
  | none => rw [ha] at h; cases h
  | some a => exact ⟨a, rfl⟩
theorem runT_ok : ∀ (ns : List Node) (at_ : Int) (st : List Int) (ps : List Part), (runT ns at_ st ps).2.1 = 0 →
    (∀ n ∈ ns, ∃ a, arityK n.kind = some a) ∧ (runT ns at_ st ps).2.2.1.length = st.length + ns.length ∧ 0 < st.length + ns.length
  | [], at_, st, ps, h => by
    simp only [runT] at h ⊢
    cases ho : oneB st with
    | false => rw [ho] at h; cases h
    | true =>
      rw [if_pos rfl]
      have : 0 < st.length := by
        have := of_decide_eq_true ho
        exact this.1
      exact ⟨(fun n hn => by cases hn), rfl, by simpa using this⟩
  | n :: ns, at_, st, ps, h => by
    simp only [runT] at h ⊢
    by_cases hc : (stepT n st ps).1 = 0
    · rw [if_neg (by simp [hc])] at h ⊢
      obtain ⟨h1, h2, h3⟩ := runT_ok ns _ _ _ h
      refine ⟨fun m hm => ?_, ?_, by rw [List.length_cons]; omega⟩
      · rcases List.mem_cons.1 hm with rfl | hm
        · exact stepT_kind hc
        · exact h1 m hm
      · rw [h2, stepT_len hc, List.length_cons]
        omega
    · rw [if_pos hc] at h
      exact absurd h hc
theorem TabAt.looks {r hi : Nat} {w : World} (h : TabAt r hi w) {k : Int} (h0 : 1 ≤ k) (h1 : k ≤ 16) :
    ∃ fu cu ff cf fg cg, FnI (r + 1) hi (.func (.func fg) #[] cg) (weightI k) w ∧ ∀ W, Below w.heap.size w W → ∀ b : Bool, (Instr.lookup 56 (.map (some r)) (.int .i64 k) b).run Try.prog W = .ok (if b then .tuple #[.agg #[.bool (truthK k), .bool (wantsK k), .func (.func fu) #[] cu, .func (.func ff) #[] cf, .func (.func fg) #[] cg], .bool true] else .agg #[.bool (truthK k), .bool (wantsK k), .func (.func fu) #[] cu, .func (.func ff) #[] cf, .func (.func fg) #[] cg]) W := by
  have hlt := h.lt
  have hsz := h.size
  obtain ⟨es, e1, e2, e3⟩ := h.out
  obtain ⟨v, hv⟩ := lookE_some e2 h0 h1
  have hm := e3 _ (lookE_mem hv)
  obtain ⟨u, f, g, he, q1, q2, q3⟩ := hm.out
  simp only at he
  subst he
  obtain ⟨fu, cu, rfl, -⟩ := q1
  obtain ⟨ff, cf, rfl, -⟩ := q2
  obtain ⟨fg, cg, rfl, z⟩ := q3
  refine ⟨fu, cu, ff, cf, fg, cg, ⟨fg, cg, rfl, z⟩, fun W hb b => ?_⟩
  have := run_lookup_int (P := Try.prog) W _ _ _ Try.underlying56 Try.underlying3 _ (fun W => Try.zeroValue64 W) r es (e1.congr (hb.block r (by omega))) k b
  rw [hv] at this
  exact this
theorem startW {w : World} {kb r : Nat} {n : Node} {res : Value} (hL : ∀ W, Below w.heap.size w W → (Instr.lookup 56 (.map (some r)) (.int .i64 n.kind) false).run Try.prog W = .ok res W) (k0 : w.cell? ⟨kb, 0, none⟩ = some (.map (some r))) :
    (w.alloc (.cells (enc n) 40)).drew.cell? ⟨kb, 0, none⟩ = some (.map (some r)) ∧ (w.alloc (.cells (enc n) 40)).drew.cell? ⟨w.heap.size, 0, none⟩ = some (.int .i64 n.kind) ∧ nodeAt (w.alloc (.cells (enc n) 40)).drew ⟨w.heap.size, 0, none⟩ = some n ∧ (Instr.lookup 56 (.map (some r)) (.int .i64 n.kind) false).run Try.prog (w.alloc (.cells (enc n) 40)).drew = .ok res (w.alloc (.cells (enc n) 40)).drew ∧ Below w.heap.size w (w.alloc (.cells (enc n) 40)).drew := by
  have hb : Below w.heap.size w (w.alloc (.cells (enc n) 40)).drew := ((Below.refl _ w).alloc (Nat.le_refl _) _).drew
  have hn : (w.alloc (.cells (enc n) 40)).drew.heap[w.heap.size]? = some (.cells (enc n) 40 (0, 0)) := heap_alloc_new w _
  exact ⟨(hb.cell (World.block_lt_of_cell? w _ k0)).trans k0, by rw [cell_of_row _ _ 0 _ _ _ hn]; rfl, nodeAt_row hn, hL _ hb, hb⟩
theorem keepW {w V V' : World} {kb r b : Nat} {n : Node} {res : Value} (hL : ∀ W, Below w.heap.size w W → (Instr.lookup 56 (.map (some r)) (.int .i64 n.kind) false).run Try.prog W = .ok res W)
    (h : V.cell? ⟨kb, 0, none⟩ = some (.map (some r)) ∧ V.cell? ⟨b, 0, none⟩ = some (.int .i64 n.kind) ∧ nodeAt V ⟨b, 0, none⟩ = some n ∧ (Instr.lookup 56 (.map (some r)) (.int .i64 n.kind) false).run Try.prog V = .ok res V ∧ Below w.heap.size w V)
    (hb : Below V.heap.size V V') :
    V'.cell? ⟨kb, 0, none⟩ = some (.map (some r)) ∧ V'.cell? ⟨b, 0, none⟩ = some (.int .i64 n.kind) ∧ nodeAt V' ⟨b, 0, none⟩ = some n ∧ (Instr.lookup 56 (.map (some r)) (.int .i64 n.kind) false).run Try.prog V' = .ok res V' ∧ Below w.heap.size w V' := by
  obtain ⟨h1, h2, h3, h4, h5⟩ := h
  have h6 : Below w.heap.size w V' := h5.trans (hb.mono h5.size)
  exact ⟨(hb.cell (World.block_lt_of_cell? V _ h1)).trans h1, (hb.cell (World.block_lt_of_cell? V _ h2)).trans h2, nodeAt_later hb h3, hL _ h6, h6⟩
theorem last5 {a b c d e : Prop} (H : a ∧ b ∧ c ∧ d ∧ e) : e := H.2.2.2.2
set_option maxRecDepth 100000 in
set_option maxHeartbeats 1600000 in
theorem check_any (A : Option Addr) (c : Nat) (ns : List Node) (w : World) (hA : Ns w A ns) (hok : NodesOk ns) :
    Calls Try.prog 13 #[.slice A ns.length c] w fun e w' => e = .returned (.tuple #[.int .i64 (checkT ns).1, .int .i64 (checkT ns).2]) ∧ Below w.heap.size w w' := by
  have HA := Lib.hid hA
  have HO := Lib.hid hok
  have hnl := hok.len
  clear hA hok
  go_enter Try.func13, Try.ntmps13
  go_wp2_with fail
  refine (through_any A c ns _ HA.out HO.out).mono ?_
  rintro e w1 ⟨r, hi, kb, rfl, hB, hr, hW⟩
  have HB := Lib.hid hB
  have HW := Lib.hid hW
  have Hck := Lib.hid (show checkT ns = checkT ns from rfl)
  obtain ⟨code, hcode⟩ : ∃ x, (runT ns 0 [] []).2.1 = x := ⟨_, rfl⟩
  obtain ⟨place, hplace⟩ : ∃ x, (runT ns 0 [] []).1 = x := ⟨_, rfl⟩
  rw [hcode, hplace]
  have Hcode := Lib.hid hcode
  have Hplace := Lib.hid hplace
  clear hB hW hcode hplace
  by_cases hc0 : code = 0
  · subst hc0
    have hW1 := HW.out Hcode.out
    obtain ⟨hk, hlen, hpos⟩ := runT_ok ns 0 [] [] Hcode.out
    rw [List.length_nil, Nat.zero_add] at hlen hpos
    obtain ⟨vs, vp, hR⟩ := hW1.row
    obtain ⟨B, cp, rfl, hBp⟩ := ownP_form hR.ps
    have hpl := hW1.len
    rw [hlen] at hpl
    obtain ⟨gp, rfl, hgp, hcell⟩ := hBp (by omega)
    have d0 := hcell (ns.length - 1) (by omega) 0 _ rfl
    rw [Nat.add_zero] at d0
    have k2 : w1.cell? ⟨kb, 2, none⟩ = some (.slice (some ⟨gp, 0, none⟩) ns.length cp) := by rw [cell_of_row w1 kb 2 _ _ _ hR.row, ← hpl]; rfl
    obtain ⟨P, hP⟩ : ∃ P, (runT ns 0 [] []).2.2.2.getD (ns.length - 1) Part.zero = P := ⟨_, rfl⟩
    rw [hP] at d0
    have HP := Lib.hid hP
    have HW1 := Lib.hid hW1
    have Hk := Lib.hid hk
    have i0 : (0 : Int) ≤ (ns.length : Int) - 1 := by omega
    have i1 : (ns.length : Int) - 1 < (ns.length : Int) := by omega
    clear hW1 hk hlen hR hBp hpl hcell hP HW
    obtain ⟨tr, htr⟩ : ∃ b, P.truth = b := ⟨_, rfl⟩
    rw [htr] at d0
    have Htr := Lib.hid htr
    clear htr
    cases tr with
    | false =>
      have hres : checkT ns = ((ns.length : Int) - 1, 121) := by
        unfold checkT
        rw [if_neg (by rw [Hcode.out]; simp), HP.out, if_pos Htr.out]
      have Hres := Lib.hid hres
      clear hres
      go_wp2_with fail
      go_ret2
      rw [Hres.out]
      exact ⟨rfl, HB.out⟩
    | true =>
      have hres : checkT ns = weighT ns 0 0 := by
        unfold checkT
        rw [if_neg (by rw [Hcode.out]; simp), HP.out, if_neg (by rw [Htr.out]; simp)]
      have Hres := Lib.hid hres
      clear hres
      go_wp2_with fail
      go_loopw [36, 7] (fun x y wr => ∃ (i : Nat) (s : Int), i ≤ ns.length ∧ x = .int .i64 i ∧ y = .int .i64 s ∧ 0 ≤ s ∧ s ≤ 3000 ∧ weighT (ns.drop i) i s = weighT ns 0 0 ∧ Below w.heap.size w wr ∧ WalkAt r hi kb (runT ns 0 [] []).2.2.1 (runT ns 0 [] []).2.2.2 wr) (fun x _ _ => ns.length - (intOf x).toNat)
      case atStart => exact ⟨0, 0, by omega, rfl, rfl, by omega, by omega, rfl, HB.out, HW1.out⟩
      case round =>
        obtain ⟨i, s, hi', rfl, rfl, hs0, hs1, hrun, hB2, hW2⟩ := hrel
        have Hrun := Lib.hid hrun
        have HB2 := Lib.hid hB2
        have HW2 := Lib.hid hW2
        clear hrun hB2 hW2
        by_cases hlt : i < ns.length
        · obtain ⟨b, o, rfl, hn⟩ := (HA.out.later HB2.out) (by omega)
          have h1 := hn i hlt
          have hmem := getD_mem hlt
          have hdrop : ns.drop i = ns.getD i Node.zero :: ns.drop (i + 1) := by
            rw [List.drop_eq_getElem_cons hlt, List.getD_eq_getElem?_getD, List.getElem?_eq_getElem hlt]
            rfl
          obtain ⟨n, hnn⟩ : ∃ n, ns.getD i Node.zero = n := ⟨_, rfl⟩
          rw [hnn] at h1 hmem hdrop
          obtain ⟨ar, har⟩ := Hk.out n hmem
          have hkr := arityK_range har
          obtain ⟨fu, cu, ff, cf, fg, cg, hg, hL⟩ := HW2.out.tab.looks hkr.1 hkr.2.1
          obtain ⟨fg1, cg1, hgq, hge, hgc⟩ := hg
          cases hgq
          obtain ⟨tr, htr⟩ : ∃ b, truthK n.kind = b := ⟨_, rfl⟩
          obtain ⟨wa, hwa⟩ : ∃ b, wantsK n.kind = b := ⟨_, rfl⟩
          have hL2 := fun W hb => hL W hb false
          rw [htr, hwa] at hL2
          simp only [Bool.false_eq_true, if_false] at hL2
          obtain ⟨vs2, vp2, hR2⟩ := HW2.out.row
          have k0 : wr.cell? ⟨kb, 0, none⟩ = some (.map (some r)) := by rw [cell_of_row wr kb 0 _ _ _ hR2.row]; rfl
          have hsz2 := HW2.out.tab.size
          have hwr := weightI_range n.kind n
          obtain ⟨wt, hwt⟩ : ∃ x, weightI n.kind n = x := ⟨_, rfl⟩
          have HGC := Lib.hid hgc
          have Hwt := Lib.hid hwt
          have Hge := Lib.hid hge
          have HL2 := Lib.hid hL2
          rw [hwt] at hwr
          have i2 : (0 : Int) ≤ (i : Int) := by omega
          have i3 : (i : Int) < (ns.length : Int) := by omega
          have Hdrop := Lib.hid hdrop
          clear hn hnn hdrop hmem har hkr hL htr hwa hR2 hgc hwt hge d0 k2 i0 i1
          have he := Hge.out
          unfold Enters at he
          go_upto_region 10 with fail
          go_region_held3 (fun w' => w'.cell? ⟨kb, 0, none⟩ = some (.map (some r)) ∧ w'.cell? ⟨wr.heap.size, 0, none⟩ = some (.int .i64 n.kind) ∧ nodeAt w' ⟨wr.heap.size, 0, none⟩ = some n ∧ (Instr.lookup 56 (.map (some r)) (.int .i64 n.kind) false).run Try.prog w' = .ok (.agg #[.bool tr, .bool wa, .func (.func fu) #[] cu, .func (.func ff) #[] cf, .func (.func fg) #[] cg]) w' ∧ Below wr.heap.size wr w')
            (first | exact startW hL2 k0 | exact keepW hL2 (by assumption) (by assumption) | assumption)
            ((go_at_fn fg; refine (HGC.out _ (AgreeOn.below (last5 (by assumption)) hsz2 hsz2) n).mono ?_; rw [Hwt.out]; rintro e w4 ⟨rfl, hB4⟩))
          rename_i hH
          have hB5 : Below wr.heap.size wr w4 := last5 hH
          have HB5 := Lib.hid hB5
          clear hH hB5
          rw [show IntKind.i64.wrap (s + wt) = s + wt from IntWalk.i64_in _ (by omega)]
          have hrun2 := Hrun.out
          rw [Hdrop.out] at hrun2
          simp only [weighT, Hwt.out] at hrun2
          by_cases hmax : s + wt > 3000
          · rw [if_pos hmax] at hrun2
            have Hrun2 := Lib.hid hrun2
            have hmax2 : 3000 < s + wt := hmax
            clear hrun2
            go_wp2_with fail
            go_ret2
            rw [Hres.out, ← Hrun2.out]
            exact ⟨rfl, HB2.out.trans (HB5.out.mono HB2.out.size)⟩
          · rw [if_neg hmax] at hrun2
            have Hrun2 := Lib.hid hrun2
            have hmax2 : s + wt ≤ 3000 := by omega
            clear hrun2
            go_wp2_with fail
            go_round
            case rel => exact ⟨i + 1, s + wt, by omega, by go_num, rfl, by omega, by omega, by have := Hrun2.out; simpa using this, HB2.out.trans (HB5.out.mono HB2.out.size), HW2.out.later HB5.out⟩
            case measure => simp [intOf]; omega
        · have Hie := Lib.hid (show i = ns.length by omega)
          have hi1 : ¬ (i : Int) < (ns.length : Int) := by omega
          have hrun2 := Hrun.out
          rw [List.drop_of_length_le (by omega)] at hrun2
          have Hrun2 := Lib.hid hrun2
          clear hrun2
          go_wp2_with fail
          go_ret2
          rw [Hres.out, ← Hrun2.out]
          exact ⟨rfl, HB2.out⟩
  · have hcb : (code == 0) = false := by simp [hc0]
    have hres : checkT ns = (place, code) := by
      unfold checkT
      rw [Hcode.out, Hplace.out, if_pos hc0]
    have Hres := Lib.hid hres
    clear hres
    go_wp2_with fail
    go_ret2
    rw [Hres.out]
    exact ⟨rfl, HB.out⟩
end Go.Proofs.Ytedhlofmkehfkaa
