/- types.Parts. -/
import Derived.Test.YtedhlofmkehfkaaOf
import Derived.Test.YtedhlofmkehfkaaNs3
import Derived.Deep.RegionLawGrows
import Derived.Deep.DeepCutAuto
import Derived.Deep.CutBlock
namespace Go.Proofs.Ytedhlofmkehfkaa
open Go.RowKit Go.Shelf
set_option linter.unusedVariables false
set_option linter.unusedSimpArgs false

/-- The parts of a list. -/
def partsT (ns : List Node) : Option (List (List Node)) :=
  match ofT ns [] with
  | none => none
  | some st =>
    if oneB st = false then none
    else match (arityK (ns.getD (ns.length - 1) Node.zero).kind).getD 0 with
      | 0 => some []
      | 1 => some [ns.take (ns.length - 1)]
      | _ => some [ns.take (st.getD (ns.length - 2) 0).toNat, (ns.take (ns.length - 1)).drop (st.getD (ns.length - 2) 0).toNat]
/-- A slice of slices of nodes that a call has made: where each lies. -/
structure OwnNN (w : World) (base : Nat) (g : Nat) (ls : List (List Node)) (gs : List (Nat × Nat)) : Prop where
  len : gs.length = ls.length
  lt : base ≤ g
  row : ∀ i, i < ls.length → w.cell? ⟨g, i, none⟩ = some (.slice (some ⟨(gs.getD i (0, 0)).1, 0, none⟩) (ls.getD i []).length (gs.getD i (0, 0)).2)
  own : ∀ i, i < ls.length → OwnN w base (.slice (some ⟨(gs.getD i (0, 0)).1, 0, none⟩) (ls.getD i []).length (gs.getD i (0, 0)).2) (ls.getD i [])
  apart : ∀ i, i < ls.length → (gs.getD i (0, 0)).1 ≠ g
  apart2 : ∀ i j, i < ls.length → j < ls.length → i ≠ j → (gs.getD i (0, 0)).1 ≠ (gs.getD j (0, 0)).1
theorem sliceInfos : (Try.prog.info? 22).map (fun i => (i.zero, i.size, i.bytes)) = some (some (.slice none 0 0), 1, 24) := by kernel_rfl
theorem Ns.prefix {w : World} {A : Option Addr} {ns : List Node} (h : Ns w A ns) (k : Nat) : Ns w A (ns.take k) := Ns.take (l2 := ns.drop k) (by rw [List.take_append_drop]; exact h)
theorem downs_one {st : List Int} {q : Int} (h : downs st 1 st.length = some q) : 0 < st.length := by
  rcases Nat.eq_zero_or_pos st.length with h0 | h0
  · simp [downs, h0] at h
  · exact h0
theorem own_mono {w : World} {base base' sz n : Nat} {e : TypeId} {v : Value} {xs : List Value} (h : w.ownsRow base e sz v n xs) (hb : base' ≤ base) : w.ownsRow base' e sz v n xs := by
  refine ⟨h.1, ?_⟩
  rcases h.2 with h | ⟨g, cap, cur, rfl, h1, h2⟩
  · exact .inl h
  · exact .inr ⟨g, cap, cur, rfl, Nat.le_trans hb h1, h2⟩
/-- A copy of some nodes, as a step of a region that draws its order. -/
theorem step_copy {ops : Array Oper} {o : Oper} {a : Act} {V : World} {K : Act → World → Prop} {Q : Exit → Act → World → Prop} {E : Prop} (hg : o.guard = none) (s x : Operand)
    (hop : o.op = Op.call { callee := Callee.builtin Builtin.append, args := #[s, x], argTypes := #[22, 22] }) (w0 : World) (eb : Nat) (ad : Addr) (c : Nat) (l : List Node)
    (hs : a.eval s = .slice (some ⟨eb, 0, none⟩) 0 0) (m : Nat) (hx : a.eval x = .slice (some ad) m c) (hb : Below w0.heap.size w0 V) (hc : ∀ k u, (flat l)[k]? = some u → w0.cell? (ad.add k) = some u) (had : ad.block < w0.heap.size) (hm : m = l.length) (hl0 : 0 < l.length) (hl : l.length ≤ 1954687338260)
    (hK : ∀ g cap V', V.heap.size ≤ g → OwnN V' w0.heap.size (.slice (some ⟨g, 0, none⟩) m cap) l → Below V.heap.size V V' → Below w0.heap.size w0 V' → K (a.put o.dst (.slice (some ⟨g, 0, none⟩) m cap)) V') :
    if Region.wanted o (yielded ops a.tmps) = true then Oper.wp Try.prog o a V K Q else E := by
  obtain ⟨i0, hi0, hz0, hz1, hz2⟩ := info_parts nodeInfos
  subst hm
  refine step_append_grows hg s x _ hop 40 i0 (.agg (enc Node.zero)) 24 72 Try.underlying22 hi0 hz0 hz1 hz2 rfl (by decide) (some ⟨eb, 0, none⟩) 0 0 [] hs (fun e => by cases e) rfl (fun b hb j u hu => by cases hu) ad l.length c (flat l) hx (flat_length l)
    (fun j u hu => (hb.cell (by rw [add_block]; exact had)).trans (hc j u hu)) (flat_one l) (by omega) (by simp only [maxLen]; omega) (by omega) ?_
  intro v' V' hown hgrow
  obtain ⟨g, cap, rfl, hg1, hg2⟩ := hown.form (by omega)
  rw [Nat.zero_add, List.nil_append] at hown
  rw [Nat.zero_add]
  have hb2 : Below V.heap.size V V' := (Below.refl _ V).grown hgrow (Nat.le_refl _) (fun k e => by cases e)
  exact hK g cap V' hg1 (own_mono hown hb.size) hb2 (hb.trans (hb2.mono hb.size))
theorem ofT_snoc (n : Node) : ∀ (ns : List Node) (st0 : List Int), ofT (ns ++ [n]) st0 = (ofT ns st0).bind fun st1 => (arityK n.kind).bind fun a => addL st1 a
  | [], st0 => by
    show (match arityK n.kind with | none => none | some a => match addL st0 a with | none => none | some st2 => ofT [] st2) = _
    cases arityK n.kind with
    | none => rfl
    | some a =>
      show (match addL st0 a with | none => none | some st2 => some st2) = addL st0 a
      cases addL st0 a <;> rfl
  | m :: ns, st0 => by
    show (match arityK m.kind with | none => none | some a => match addL st0 a with | none => none | some st2 => ofT (ns ++ [n]) st2) = ((match arityK m.kind with | none => none | some a => match addL st0 a with | none => none | some st2 => ofT ns st2).bind _)
    cases arityK m.kind with
    | none => rfl
    | some a =>
      show (match addL st0 a with | none => none | some st2 => ofT (ns ++ [n]) st2) = ((match addL st0 a with | none => none | some st2 => ofT ns st2).bind _)
      cases addL st0 a with
      | none => rfl
      | some st2 => exact ofT_snoc n ns st2
theorem addL_ok {st st2 : List Int} {a : Nat} (hs : StartsOk st) (h : addL st a = some st2) : StartsOk st2 := by
  unfold addL at h
  cases hd : downs st a st.length with
  | none => rw [hd] at h; cases h
  | some r =>
    rw [hd] at h
    cases h
    have := downs_range hs a _ r (by omega) (by omega) hd
    exact hs.snoc this.1 (by omega)
theorem ofT_ok : ∀ (ns : List Node) (st0 st : List Int), StartsOk st0 → ofT ns st0 = some st → StartsOk st ∧ st.length = st0.length + ns.length
  | [], st0, st, hs, h => by cases h; exact ⟨hs, rfl⟩
  | m :: ns, st0, st, hs, h => by
    simp only [ofT] at h
    cases ha : arityK m.kind with
    | none => rw [ha] at h; cases h
    | some a =>
      rw [ha] at h
      simp only at h
      cases hb : addL st0 a with
      | none => rw [hb] at h; cases h
      | some st2 =>
        rw [hb] at h
        have := ofT_ok ns st2 st (addL_ok hs hb) h
        rw [addL_len hb] at this
        exact ⟨this.1, by rw [this.2, List.length_cons]; omega⟩
theorem starts_nil : StartsOk [] := fun i hi => by cases hi
theorem last_eq {ns : List Node} (h : 0 < ns.length) : ns = ns.take (ns.length - 1) ++ [ns.getD (ns.length - 1) Node.zero] := by
  have := take_succ_node (xs := ns) (i := ns.length - 1) (by omega)
  rw [show ns.length - 1 + 1 = ns.length from by omega, List.take_length] at this
  exact this
/-- What is known of a tree whose root has parts. -/
theorem of_parts {ns : List Node} {st : List Int} {a : Nat} (hp : 0 < ns.length) (h : ofT ns [] = some st) (ha : (arityK (ns.getD (ns.length - 1) Node.zero).kind).getD 0 = a) (h1 : 1 ≤ a) :
    2 ≤ ns.length ∧ (a = 2 → 1 ≤ st.getD (ns.length - 2) 0 ∧ st.getD (ns.length - 2) 0 ≤ (ns.length : Int) - 2) := by
  obtain ⟨n, hn⟩ : ∃ n, ns.getD (ns.length - 1) Node.zero = n := ⟨_, rfl⟩
  have hl := last_eq hp
  rw [hn] at hl ha
  rw [hl, ofT_snoc] at h
  cases h2 : ofT (ns.take (ns.length - 1)) [] with
  | none => rw [h2] at h; cases h
  | some st1 =>
    rw [h2] at h
    obtain ⟨hs1, hl1⟩ := ofT_ok _ _ _ starts_nil h2
    rw [List.length_take, List.length_nil] at hl1
    have hl1 : st1.length = ns.length - 1 := by omega
    cases h3 : arityK n.kind with
    | none => rw [h3] at ha; simp at ha; omega
    | some x =>
      rw [h3] at ha h
      simp only [Option.getD_some] at ha
      subst ha
      have h : addL st1 x = some st := h
      unfold addL at h
      cases hd : downs st1 x st1.length with
      | none => rw [hd] at h; cases h
      | some q =>
        rw [hd] at h
        simp only [Option.map_some, Option.some.injEq] at h
        have hst := h
        obtain ⟨m, rfl⟩ : ∃ m, x = m + 1 := ⟨x - 1, by omega⟩
        simp only [downs] at hd
        split at hd
        · cases hd
        · rename_i hne
          refine ⟨by omega, fun h2 => ?_⟩
          obtain rfl : m = 1 := by omega
          simp only [downs] at hd
          split at hd
          · cases hd
          · rename_i hne2
            have e : st.getD (ns.length - 2) 0 = st1.getD (ns.length - 2) 0 := by
              rw [← hst]
              simp [List.getD_eq_getElem?_getD, List.getElem?_append_left (show ns.length - 2 < st1.length by omega)]
            have hr := hs1 (ns.length - 2) (by omega)
            rw [show ((st1.length : Int).toNat - 1) = ns.length - 2 from by omega] at hne2
            rw [e]
            omega
theorem parts_two {w w1 V1 Vp V2 V3 : World} {g1 cap1 g2 cap2 g3 cap3 m1 m2 n3 : Nat} {l1 l2 : List Node} {xs : List Value} (hB : Below w.heap.size w w1) (hB1 : Below w1.heap.size w1 V1) (hO1 : OwnN V1 w1.heap.size (.slice (some ⟨g1, 0, none⟩) m1 cap1) l1) (hp : Below V1.heap.size V1 Vp) (hb2 : Below Vp.heap.size Vp V2) (hg2 : Vp.heap.size ≤ g2)
    (hO2 : OwnN V2 w1.heap.size (.slice (some ⟨g2, 0, none⟩) m2 cap2) l2) (e1 : l1.length = m1) (e2 : l2.length = m2)
    (hgrow3 : (V2.alloc (.cells #[.slice (some ⟨g1, 0, none⟩) m1 cap1, .slice (some ⟨g2, 0, none⟩) m2 cap2] 22)).grownBy V3 none)
    (hO3 : V3.ownsRow (V2.alloc (.cells #[.slice (some ⟨g1, 0, none⟩) m1 cap1, .slice (some ⟨g2, 0, none⟩) m2 cap2] 22)).heap.size 22 1 (.slice (some ⟨g3, 0, none⟩) n3 cap3) n3 xs) (exs : xs = [.slice (some ⟨g1, 0, none⟩) m1 cap1, .slice (some ⟨g2, 0, none⟩) m2 cap2]) :
    Below w.heap.size w V3 ∧ OwnNN V3 w.heap.size g3 [l1, l2] [(g1, cap1), (g2, cap2)] := by
  subst exs
  have hsz : (V2.alloc (.cells #[.slice (some ⟨g1, 0, none⟩) m1 cap1, .slice (some ⟨g2, 0, none⟩) m2 cap2] 22)).heap.size = V2.heap.size + 1 := by simp
  have b3 : Below V2.heap.size V2 V3 := ((Below.refl _ V2).alloc (Nat.le_refl _) _).grown hgrow3 (by omega) (fun k e => by cases e)
  have b13 : Below V1.heap.size V1 V3 := (hp.trans (hb2.mono hp.size)).trans (b3.mono (Nat.le_trans hp.size hb2.size))
  have bw : Below w.heap.size w V3 := (hB.trans (hB1.mono hB.size)).trans (b13.mono (Nat.le_trans hB.size hB1.size))
  have hw1 := hB.size
  have q1 := own_lt hO1 (b := g1) rfl
  have q2 := own_lt hO2 (b := g2) rfl
  have q3 := own_lt hO3 (b := g3) rfl
  have hps := hp.size
  have c0 := World.ownsRow.cells hO3 (g := g3) rfl 0 _ rfl
  have c1 := World.ownsRow.cells hO3 (g := g3) rfl 1 _ rfl
  rw [add_plain] at c0 c1
  have o1 : OwnN V3 w.heap.size (.slice (some ⟨g1, 0, none⟩) m1 cap1) l1 := own_later (own_mono hO1 hw1) fun b hb => b13.block b (own_lt hO1 hb).2
  have o2 : OwnN V3 w.heap.size (.slice (some ⟨g2, 0, none⟩) m2 cap2) l2 := own_later (own_mono hO2 hw1) fun b hb => b3.block b (own_lt hO2 hb).2
  refine ⟨bw, rfl, by omega, ?_, ?_, ?_, ?_⟩
  · intro i hi
    have : i = 0 ∨ i = 1 := by have : i < 2 := hi; omega
    rcases this with rfl | rfl
    · simpa [e1] using c0
    · simpa [e2] using c1
  · intro i hi
    have : i = 0 ∨ i = 1 := by have : i < 2 := hi; omega
    rcases this with rfl | rfl
    · simpa [e1] using o1
    · simpa [e2] using o2
  · intro i hi
    have : i = 0 ∨ i = 1 := by have : i < 2 := hi; omega
    rcases this with rfl | rfl
    · show g1 ≠ g3; omega
    · show g2 ≠ g3; omega
  · intro i j hi hj hne
    have : i = 0 ∨ i = 1 := by have : i < 2 := hi; omega
    have : j = 0 ∨ j = 1 := by have : j < 2 := hj; omega
    have hh : g1 ≠ g2 := by omega
    rcases ‹i = 0 ∨ i = 1› with rfl | rfl <;> rcases ‹j = 0 ∨ j = 1› with rfl | rfl
    · exact absurd rfl hne
    · exact hh
    · exact hh.symm
    · exact absurd rfl hne
set_option maxRecDepth 100000 in
set_option maxHeartbeats 1600000 in
theorem parts_any (A : Option Addr) (c : Nat) (ns : List Node) (w : World) (hA : Ns w A ns) (hnl : ns.length ≤ 1954687338260) (hcap : ns.length ≤ c) :
    Calls Try.prog 21 #[.slice A ns.length c] w fun e w' => Below w.heap.size w w' ∧
      ((partsT ns = none ∧ e = .returned (.tuple #[.slice none 0 0, .bool false])) ∨
       (partsT ns = some [] ∧ e = .returned (.tuple #[.slice none 0 0, .bool true])) ∨
       (∃ ls g cap gs, partsT ns = some ls ∧ 0 < ls.length ∧ e = .returned (.tuple #[.slice (some ⟨g, 0, none⟩) ls.length cap, .bool true]) ∧ OwnNN w' w.heap.size g ls gs)) := by
  obtain ⟨i0, hi0, hz0, hz1, hz2⟩ := info_parts nodeInfos
  obtain ⟨j0, hj0, hy0, hy1, hy2⟩ := info_parts sliceInfos
  have Hz0 := Lib.hid hz0
  have Hz1 := Lib.hid hz1
  have Hz2 := Lib.hid hz2
  have Hy0 := Lib.hid hy0
  have Hy1 := Lib.hid hy1
  have Hy2 := Lib.hid hy2
  have HA := Lib.hid hA
  clear hz0 hz1 hz2 hA hy0 hy1 hy2
  go_enter Try.func21, Try.ntmps21
  go_wp2_with fail
  refine (of_any A c ns _ HA.out hnl).mono ?_
  rintro e w1 ⟨hB, hres⟩
  rcases hres with ⟨hno, rfl⟩ | ⟨st, v, hst, rfl, hown, hs, hlen⟩
  · have hp : partsT ns = none := by simp [partsT, hno]
    have HP := Lib.hid hp
    have HB := Lib.hid hB
    clear hno hp hB
    go_wp2_with fail
    go_ret2
    exact ⟨HB.out, .inl ⟨HP.out, rfl⟩⟩
  · have HB := Lib.hid hB
    have HO := Lib.hid hown
    have HS := Lib.hid hs
    have Hlen := Lib.hid hlen
    have Hst := Lib.hid hst
    clear hB hown hs hlen hst
    cases hob : oneB st with
    | false =>
      have hp : partsT ns = none := by simp [partsT, Hst.out, hob]
      have HP := Lib.hid hp
      clear hp
      go_wp2_with fail
      go_ret2
      exact ⟨HB.out, .inl ⟨HP.out, rfl⟩⟩
    | true =>
      have hpos : 0 < ns.length := by
        have := (of_decide_eq_true hob).1
        have := Hlen.out
        omega
      obtain ⟨b, o, rfl, hn⟩ := (HA.out.later HB.out) hpos
      have h1 := hn (ns.length - 1) (by omega)
      obtain ⟨n, hnn⟩ : ∃ n, ns.getD (ns.length - 1) Node.zero = n := ⟨_, rfl⟩
      rw [hnn] at h1
      have k0 : w1.cell? ⟨b, o + (ns.length - 1) * 24, none⟩ = some (.int .i64 n.kind) := by
        have := nodeIn_of h1 0 _ rfl
        rwa [add_plain, Nat.add_zero] at this
      have i0 : (0 : Int) ≤ (ns.length : Int) - 1 := by omega
      have i1 : (ns.length : Int) - 1 < (ns.length : Int) := by omega
      obtain ⟨ar, har⟩ : ∃ x, arityK n.kind = x := ⟨_, rfl⟩
      have Har := Lib.hid har
      have Hnn := Lib.hid hnn
      clear hn h1 hnn har
      go_wp2_with fail
      refine (arity_any _ _).mono ?_
      rw [Har.out]
      rintro e w2 ⟨rfl, rfl⟩
      obtain ⟨a, ha⟩ : ∃ x, ar.getD 0 = x := ⟨_, rfl⟩
      rw [ha]
      have Ha := Lib.hid ha
      have ha2 : a ≤ 2 := by
        cases ar with
        | none => simp at ha; omega
        | some x => simp at ha; have := arityK_range Har.out; omega
      clear ha
      have h012 : a = 0 ∨ a = 1 ∨ a = 2 := by omega
      rcases h012 with rfl | rfl | rfl
      · have hp : partsT ns = some [] := by
          unfold partsT
          rw [Hst.out]
          simp only [hob, Bool.true_eq_false, if_false, Hnn.out, Har.out, Ha.out]
        have HP := Lib.hid hp
        clear hp
        go_wp2_with fail
        go_ret2
        exact ⟨HB.out, .inr (.inl ⟨HP.out, rfl⟩)⟩
      · have hp : partsT ns = some [ns.take (ns.length - 1)] := by
          unfold partsT
          rw [Hst.out]
          simp only [hob, Bool.true_eq_false, if_false, Hnn.out, Har.out, Ha.out]
        have HP := Lib.hid hp
        have h2 := (of_parts hpos Hst.out (by rw [Hnn.out, Har.out]; exact Ha.out) (Nat.le_refl _)).1
        have hNs := (HA.out.later (HB.out.alloc HB.out.size (.cells #[] 40))).prefix (ns.length - 1)
        have hlt : (ns.take (ns.length - 1)).length = ns.length - 1 := by rw [List.length_take]; omega
        obtain ⟨b', o', e', hc⟩ := hNs.cells (by rw [hlt]; omega)
        cases e'
        have Hc := Lib.hid hc
        have Hlt := Lib.hid hlt
        have i2 : (ns.length : Int) - 1 ≤ (c : Int) := by omega
        clear hp hNs hlt hc
        go_wp2_with (at_builtin; refine wpList_append_grows _ rfl _ _ 22 rfl 40 _ (.agg (enc Node.zero)) 24 72 Try.underlying22 hi0 Hz0.out Hz1.out Hz2.out rfl (by decide) (some ⟨w1.heap.size, 0, none⟩) 0 0 [] rfl (fun e => by cases e) rfl (fun b hb j u hu => by cases hu) ⟨b, o, none⟩ (ns.length - 1) c (flat (ns.take (ns.length - 1))) rfl (by rw [flat_length, Hlt.out]) Hc.out (flat_one _) (by omega) (by simp only [maxLen]; omega) (by omega) ?_; intro v2 w2 hown2 hgrow; refine Hid.out ?_)
        refine Lib.hid ?_
        obtain ⟨g1, cap1, rfl, hg1, hg1l⟩ := hown2.form (by omega)
        rw [Nat.zero_add, List.nil_append] at hown2
        have hB2 : Below w.heap.size w w2 := (HB.out.alloc HB.out.size _).grown hgrow (by have := HB.out.size; simp; omega) (fun k e => by cases e)
        have HO2 := Lib.hid hown2
        have HB2 := Lib.hid hB2
        have hnew := Lib.hid (World.news_of_block (heap_alloc_new w2 (.cells #[.slice (some ⟨g1, 0, none⟩) (ns.length - 1) cap1] 22)))
        clear hgrow hB2 hown2
        rw [Nat.zero_add]
        go_wp2_with (at_builtin; refine wpList_append_grows _ rfl _ _ 34 rfl 22 j0 (.slice none 0 0) 1 24 Try.underlying34 hj0 Hy0.out Hy1.out Hy2.out rfl (by decide) none 0 0 [] rfl (fun _ => ⟨rfl, rfl⟩) rfl (fun b hb => by cases hb) ⟨w2.heap.size, 0, none⟩ 1 1 [.slice (some ⟨g1, 0, none⟩) (ns.length - 1) cap1] rfl rfl hnew.out (by simp [Value.oneCell']) (by omega) (by simp [maxLen]) (by omega) ?_; intro v3 w3 hown3 hgrow3; refine Hid.out ?_)
        refine Lib.hid ?_
        obtain ⟨g2, cap2, rfl, hg2, hg2l⟩ := hown3.form (by omega)
        rw [Nat.zero_add, List.nil_append] at hown3
        have hsz3 : (w2.alloc (.cells #[.slice (some ⟨g1, 0, none⟩) (ns.length - 1) cap1] 22)).heap.size = w2.heap.size + 1 := by simp
        have hB3 : Below w2.heap.size w2 w3 := ((Below.refl _ w2).alloc (Nat.le_refl _) _).grown hgrow3 (by omega) (fun k e => by cases e)
        have hsz1 : (w1.alloc (.cells #[] 40)).heap.size = w1.heap.size + 1 := by simp
        have hs1 := HB.out.size
        have hs2 := HB2.out.size
        have hcell := World.ownsRow.cells hown3 (g := g2) rfl 0 _ rfl
        rw [add_plain] at hcell
        have hfin : OwnNN w3 w.heap.size g2 [ns.take (ns.length - 1)] [(g1, cap1)] := by
          refine ⟨rfl, by omega, ?_, ?_, ?_, ?_⟩
          · intro i hi
            obtain rfl : i = 0 := by simpa using hi
            simpa [Hlt.out] using hcell
          · intro i hi
            obtain rfl : i = 0 := by simpa using hi
            have h1 := HO2.out
            have h2 : w2.ownsRow w.heap.size 40 24 (.slice (some ⟨g1, 0, none⟩) (ns.length - 1) cap1) (ns.length - 1) (flat (ns.take (ns.length - 1))) := own_mono h1 (by omega)
            have h3 := own_later h2 (W := w3) fun b hb => hB3.block b (own_lt h2 hb).2
            simpa [OwnN, Hlt.out] using h3
          · intro i hi
            obtain rfl : i = 0 := by simpa using hi
            simp
            omega
          · intro i j hi hj hne
            have : i = 0 := by simpa using hi
            have : j = 0 := by simpa using hj
            omega
        have Hfin := Lib.hid hfin
        have HB3 := Lib.hid (HB2.out.trans (hB3.mono hs2))
        clear hfin hcell hB3 hown3 hgrow3
        rw [Nat.zero_add]
        go_wp2_with fail
        go_ret2
        exact ⟨HB3.out, .inr (.inr ⟨_, g2, cap2, _, HP.out, by simp, rfl, Hfin.out⟩)⟩
      · obtain ⟨h2, hcut⟩ := of_parts (a := 2) hpos Hst.out (by rw [Hnn.out, Har.out]; exact Ha.out) (by omega)
        obtain ⟨hc1, hc2⟩ := hcut rfl
        obtain ⟨k, hk⟩ : ∃ k : Nat, st.getD (ns.length - 2) 0 = (k : Int) := ⟨(st.getD (ns.length - 2) 0).toNat, by omega⟩
        rw [hk] at hc1 hc2
        have hp : partsT ns = some [ns.take k, (ns.take (ns.length - 1)).drop k] := by
          unfold partsT
          rw [Hst.out]
          simp only [hob, Bool.true_eq_false, if_false, Hnn.out, Har.out, Ha.out, hk, Int.toNat_natCast]
        have HP := Lib.hid hp
        obtain ⟨vA, vc, rfl, hv⟩ := HO.out.form
        obtain ⟨g0, rfl, _, hv0⟩ := hv (by have := Hlen.out; omega)
        have hLeft : Calls Try.prog 35 #[.slice (some ⟨g0, 0, none⟩) st.length vc, .int .i64 ((ns.length : Int) - 1)] w1 fun e w' => e = .returned (.int .i64 ((k : Int) - 1)) ∧ w1 = w' := by
          have e1 : (((ns.length : Int) - 1).toNat - 1) = ns.length - 2 := by omega
          have hl := Hlen.out
          have := left_any (some ⟨g0, 0, none⟩) st.length vc g0 st ((ns.length : Int) - 1) w1 rfl hv0 rfl (by omega) (by omega) (by rw [e1, hk]; omega) (by rw [e1, hk]; omega) (by omega)
          rwa [e1, hk] at this
        have HL := Lib.hid hLeft
        have k1 : 1 ≤ k := by omega
        have k2 : k ≤ ns.length - 2 := by omega
        have hl1 : (ns.take k).length = k := by rw [List.length_take]; omega
        have hl2 : ((ns.take (ns.length - 1)).drop k).length = ns.length - 1 - k := by rw [List.length_drop, List.length_take]; omega
        have hN1 := (HA.out.later HB.out).prefix k
        have hN2 : Ns w1 (some ⟨b, o + k * 24, none⟩) ((ns.take (ns.length - 1)).drop k) := by
          have h := (HA.out.later HB.out).prefix (ns.length - 1)
          have h3 : Ns w1 (some ⟨b, o, none⟩) ((ns.take (ns.length - 1)).take k ++ ((ns.take (ns.length - 1)).drop k ++ [])) := by rw [List.append_nil, List.take_append_drop]; exact h
          have := Ns.sub h3
          rwa [List.length_take, List.length_take, show min k (min (ns.length - 1) ns.length) = k from by omega] at this
        obtain ⟨b', o', e', hC1⟩ := hN1.cells (by omega)
        cases e'
        obtain ⟨b', o', e', hC2⟩ := hN2.cells (by omega)
        cases e'
        have hbl : b < w1.heap.size := by
          obtain ⟨b', o', e', hq⟩ := hN1 (by omega)
          cases e'
          exact nodeAt_lt (hq 0 (by omega))
        have i2 : (0 : Int) ≤ (k : Int) := by omega
        have i3 : (k : Int) ≤ (c : Int) := by omega
        have i4 : (k : Int) ≤ (ns.length : Int) - 1 := by omega
        have i5 : (ns.length : Int) - 1 ≤ (c : Int) := by omega
        have HC1 := Lib.hid hC1
        have HC2 := Lib.hid hC2
        have HL1 := Lib.hid hl1
        have HL2 := Lib.hid hl2
        have Hk := Lib.hid hk
        clear hp hv hv0 hLeft hl1 hl2 hN1 hN2 hC1 hC2 hk hc1 hc2 hcut
        have hck : ¬ c = k := by omega
        go_upto_block 0 with fail
        go_cut [9] (fun s9 W => ∃ g cap gs, s9 = .slice (some ⟨g, 0, none⟩) 2 cap ∧ Below w.heap.size w W ∧ OwnNN W w.heap.size g [ns.take k, (ns.take (ns.length - 1)).drop k] gs)
        case first =>
          go_wp2_with fail
          refine HL.out.mono ?_
          rintro e w2 ⟨rfl, rfl⟩
          go_upto_region 12 with fail
          go_region_law (first
            | (refine step_copy rfl (.tmp 48) (.tmp 51) rfl w1 _ ⟨b, o, none⟩ c (ns.take k) (by rfl) k (by rfl) (by first | assumption | exact Below.drew ((Below.refl _ _).alloc (Nat.le_refl _) _) | exact Below.drew (((Below.refl _ _).alloc (Nat.le_refl _) _).alloc (by simp) _) | exact Below.alloc (by assumption) (Below.size (by assumption)) _) HC1.out hbl HL1.out.symm (by have := HL1.out; omega) (by have := HL1.out; omega) ?_; intro g1 cap1 V1 hg1 hO1 hb1 hB1)
            | (refine step_copy rfl (.tmp 53) (.tmp 57) rfl w1 _ ⟨b, o + k * 24, none⟩ (c - k) ((ns.take (ns.length - 1)).drop k) (by rfl) (ns.length - 1 - k) (by rfl) (by first | assumption | exact Below.drew ((Below.refl _ _).alloc (Nat.le_refl _) _) | exact Below.drew (((Below.refl _ _).alloc (Nat.le_refl _) _).alloc (by simp) _) | exact Below.alloc (by assumption) (Below.size (by assumption)) _) HC2.out hbl HL2.out.symm (by have := HL2.out; omega) (by have := HL2.out; omega) ?_; intro g2 cap2 V2 hg2 hO2 hb2 hB2)
            | (refine step_append_grows rfl (.tmp 47) (.tmp 59) 34 rfl 22 j0 (.slice none 0 0) 1 24 Try.underlying34 hj0 Hy0.out Hy1.out Hy2.out rfl (by decide) none 0 0 [] (by rfl) (fun _ => ⟨rfl, rfl⟩) rfl (fun b hb => by cases hb) _ 2 2 [.slice (some ⟨g1, 0, none⟩) k cap1, .slice (some ⟨g2, 0, none⟩) (ns.length - 1 - k) cap2] (by rfl) rfl (World.news_of_block (heap_alloc_new _ _)) (by simp [Value.oneCell']) (by omega) (by simp [maxLen]) (by omega) ?_; intro v3 V3 hO3 hgrow3; obtain ⟨g3, cap3, rfl, hg3, hg3l⟩ := hO3.form (by omega)))
          all_goals
            have hfin := parts_two HB.out hB1 hO1 (by first | exact Below.refl _ _ | exact (Below.refl _ _).alloc (Nat.le_refl _) _) hb2 hg2 hO2 HL1.out HL2.out hgrow3 hO3 rfl
            have Hfin := Lib.hid hfin
            clear hfin hB1 hO1 hb1 hg1 hb2 hg2 hO2 hB2 hgrow3 hO3 hg3 hg3l
            go_wp2_with fail
            go_meet
            exact ⟨g3, cap3, _, rfl, Hfin.out.1, Hfin.out.2⟩
        case rest =>
          obtain ⟨g, cap, gs, rfl, hBB, hNN⟩ := hcut
          have HBB := Lib.hid hBB
          have HNN := Lib.hid hNN
          clear hBB hNN
          go_wp2_with fail
          go_ret2
          exact ⟨HBB.out, .inr (.inr ⟨_, g, cap, gs, HP.out, by simp, rfl, HNN.out⟩)⟩
end Go.Proofs.Ytedhlofmkehfkaa
