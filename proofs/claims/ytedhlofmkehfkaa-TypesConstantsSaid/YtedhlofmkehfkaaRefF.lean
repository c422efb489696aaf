/- The document's way through a list: its stack of parts. -/
import Derived.Test.YtedhlofmkehfkaaRefE
import Derived.Test.YtedhlofmkehfkaaLawCheck
import Derived.Deep.RegionLawGrows
import Derived.Deep.AppendLies
namespace Go.Proofs.Ytedhlofmkehfkaa
open Go.RowKit Go.Shelf
set_option linter.unusedVariables false
set_option linter.unusedSimpArgs false

theorem nodeC_eq : nodeC = nodeD := rfl
/-- The stack, in a row of its own. -/
def OwnR (w : World) (base : Nat) (v : Value) (sk : List Part) : Prop := w.ownsRow base 49 3 v sk.length (sk.flatMap partL)
theorem parts_len (sk : List Part) : (sk.flatMap partL).length = sk.length * 3 := by
  induction sk with
  | nil => rfl
  | cons p sk ih => rw [List.flatMap_cons, List.length_append, ih, List.length_cons]; simp [partL]; omega
theorem parts_take : ∀ (sk : List Part) (k : Nat), (sk.take k).flatMap partL = (sk.flatMap partL).take (k * 3)
  | [], k => by simp
  | p :: sk, 0 => by simp
  | p :: sk, k + 1 => by
    have h3 : (partL p).length = 3 := rfl
    rw [List.take_succ_cons, List.flatMap_cons, List.flatMap_cons, parts_take sk k, List.take_append, h3]
    rw [show (k + 1) * 3 - 3 = k * 3 from by omega]
    congr 1
    exact (List.take_of_length_le (by rw [h3]; omega)).symm
theorem parts_get : ∀ (sk : List Part) (i : Nat), i < sk.length → ∀ j u, (partL (sk.getD i Part.zero))[j]? = some u → (sk.flatMap partL)[i * 3 + j]? = some u
  | [], i, h, _, _, _ => by cases h
  | p :: sk, 0, h, j, u, hu => by
    have h3 : j < (partL p).length := by
      have hu : (partL p)[j]? = some u := hu
      exact (List.getElem?_eq_some_iff.1 hu).1
    rw [List.flatMap_cons, List.getElem?_append_left (by omega), Nat.zero_mul, Nat.zero_add]
    exact hu
  | p :: sk, i + 1, h, j, u, hu => by
    have h3 : (partL p).length = 3 := rfl
    rw [List.flatMap_cons, List.getElem?_append_right (by rw [h3]; omega), h3, show (i + 1) * 3 + j - 3 = i * 3 + j from by omega]
    exact parts_get sk i (by simpa using h) j u hu
theorem ownR_form {w : World} {base : Nat} {v : Value} {sk : List Part} (h : OwnR w base v sk) : (v = .slice none 0 0 ∧ sk = []) ∨ ∃ g c, v = .slice (some ⟨g, 0, none⟩) sk.length c ∧ sk.length ≤ c ∧ c ≤ maxLen ∧ base ≤ g ∧ g < w.heap.size := by
  rcases h.2 with ⟨rfl, e⟩ | ⟨g, cap, cur, rfl, hb, hh, h1, h2, _⟩
  · exact .inl ⟨rfl, List.eq_nil_of_length_eq_zero e⟩
  · exact .inr ⟨g, cap, rfl, h1, h2, hb, (Array.getElem?_eq_some_iff.1 hh).1⟩
theorem ownR_take {w : World} {base g c : Nat} {sk : List Part} (h : OwnR w base (.slice (some ⟨g, 0, none⟩) sk.length c) sk) {k : Nat} (hk : k ≤ sk.length) : w.ownsRow base 49 3 (.slice (some ⟨g, 0, none⟩) k c) k ((sk.take k).flatMap partL) := by
  refine ⟨by rw [parts_len, List.length_take]; omega, ?_⟩
  rcases h.2 with ⟨e, _⟩ | ⟨g', cap, cur, e, hb, hh, h1, h2, h3, h4⟩
  · cases e
  · cases e
    refine .inr ⟨g, c, cur, rfl, hb, hh, by omega, h2, h3, ?_⟩
    rw [parts_take, ← h4, List.take_take, Nat.min_eq_left (by omega)]
theorem ownR_kids {w : World} {base g c : Nat} {sk : List Part} (h : OwnR w base (.slice (some ⟨g, 0, none⟩) sk.length c) sk) {k : Nat} (hk : k ≤ sk.length) : Ks w (some ⟨g, k * 3, none⟩) (sk.drop k) := by
  intro hp
  rw [List.length_drop] at hp
  have hc : ∀ i, i < (sk.drop k).length → ∀ j u, (partL ((sk.drop k).getD i Part.zero))[j]? = some u → w.cell? ⟨g, k * 3 + i * 3 + j, none⟩ = some u := by
    intro i hi j u hu
    rw [List.length_drop] at hi
    have e : (sk.drop k).getD i Part.zero = sk.getD (k + i) Part.zero := by simp [List.getD_eq_getElem?_getD]
    rw [e] at hu
    have := World.ownsRow.cells h (g := g) rfl _ _ (parts_get sk (k + i) (by omega) j u hu)
    rw [add_plain] at this
    rw [← this]
    congr 2
    omega
  exact ⟨g, k * 3, rfl, fun i hi => ⟨by simpa using hc i hi 0 _ rfl, hc i hi 1 _ rfl, hc i hi 2 _ rfl⟩⟩
theorem partInfos : (Try.prog.info? 49).map (fun i => (i.zero, i.size, i.bytes)) = some (some (.agg #[.bool false, .bool false, .int .u32 0]), 3, 8) := by kernel_rfl
/-- What stands between the stack's two halves of a round. -/
structure Round (w W : World) (kids : List Part) (n : Node) (s8 s9 : Value) : Prop where
  below : Below w.heap.size w W
  out : ∃ p q, s8 = .pointer (some ⟨p, 0, none⟩) ∧ w.heap.size ≤ p ∧ W.heap[p]? = some (.cells (partA q) 49 (0, 0)) ∧ s9 = .int .i64 (nodeC n kids) ∧ (nodeC n kids = 0 → q = (madeL n (truthK n.kind) (wantsK n.kind) kids).1)
theorem node_at {w V : World} {n : Node} {kids : List Part} {KA : Option Addr} {kc L a : Nat} (hK : Ks w KA kids) (hb : Below w.heap.size w V) (hL : L = kids.length) (ha : arityK n.kind = some a) (hka : kids.length = a) (hby : n.bytes) (hnu : isU32 n.n) (hi : ∀ p ∈ kids, PInv p) :
    Calls Try.prog 36 #[.agg (enc n), .slice KA L kc] V fun e w' => Below V.heap.size V w' ∧ ∃ q : Part, e = .returned (.tuple #[.agg #[.bool q.truth, .bool q.constant, .int .u32 q.value], .int .i64 (nodeC n kids)]) ∧ (nodeC n kids = 0 → q = (madeL n (truthK n.kind) (wantsK n.kind) kids).1) := by
  subst hL
  subst hka
  exact node_any n kids KA kc V hby hnu ha (hK.later hb) (fun p hp => (hi p hp).1) (fun p hp => (hi p hp).2.1)
theorem keepF {w V V' : World} {p : Addr} {n : Node} (h : nodeAt V p = some n ∧ Below w.heap.size w V) (hb : Below V.heap.size V V') : nodeAt V' p = some n ∧ Below w.heap.size w V' :=
  ⟨nodeAt_later hb h.1, h.2.trans (hb.mono h.2.size)⟩
theorem node_at1 {w V : World} {n : Node} {kids : List Part} {KA : Option Addr} {kc L a B : Nat} {x y z : Value} {t : TypeId} (hrow : V.heap[B]? = some (.cells #[x, y, z] t (0, 0))) (hK : Ks w KA kids) (hb : Below w.heap.size w V) (hL : L = kids.length) (ha : arityK n.kind = some a) (hka : kids.length = a) (hby : n.bytes) (hnu : isU32 n.n) (hi : ∀ p ∈ kids, PInv p) :
    Calls Try.prog 36 #[.agg (enc n), .slice KA L kc] V fun e w' => Below V.heap.size V w' ∧ ∃ q : Part, e = .returned (.tuple #[.agg #[.bool q.truth, .bool q.constant, .int .u32 q.value], .int .i64 (nodeC n kids)]) ∧ (nodeC n kids = 0 → q = (madeL n (truthK n.kind) (wantsK n.kind) kids).1) ∧
      Hid (w'.heap[B]? = some (.cells #[x, y, z] t (0, 0))) ∧ Hid (Below V.heap.size V w') ∧ w'.cell? ⟨B, 0, none⟩ = some x ∧ w'.cell? ⟨B, 1, none⟩ = some y ∧ w'.cell? ⟨B, 2, none⟩ = some z ∧ w'.frozen? ⟨B, 0, none⟩ = false ∧ w'.frozen? ⟨B, 1, none⟩ = false ∧ w'.frozen? ⟨B, 2, none⟩ = false := by
  refine (node_at hK hb hL ha hka hby hnu hi).mono ?_
  rintro e V1 ⟨hV1, q, rfl, hq⟩
  exact ⟨hV1, q, rfl, hq, store_facts hrow hV1⟩
theorem row_new1 (w : World) (o : Obj) : (w.alloc o).drew.heap[w.heap.size]? = some o := heap_alloc_new w o
theorem belowD {w V : World} (h : Below w.drew.heap.size w.drew V) : Below w.heap.size w V := ((Below.refl _ w).drew).trans h
theorem belowA {w V : World} {o : Obj} (h : Below (w.alloc o).drew.heap.size (w.alloc o).drew V) : Below w.heap.size w V := (((Below.refl _ w).alloc (Nat.le_refl _) o).drew).trans (h.mono (((Below.refl _ w).alloc (Nat.le_refl _) o).drew).size)
theorem round1 {w V : World} {n : Node} {kids : List Part} {q : Part} (hV : Below w.drew.heap.size w.drew V) (hq : nodeC n kids = 0 → q = (madeL n (truthK n.kind) (wantsK n.kind) kids).1) :
    Round w (V.alloc (.cells #[.bool q.truth, .bool q.constant, .int .u32 q.value] 49)) kids n (.pointer (some ⟨V.heap.size, 0, none⟩)) (.int .i64 (nodeC n kids)) :=
  ⟨(belowD hV).alloc (belowD hV).size _, V.heap.size, q, rfl, (belowD hV).size, heap_alloc_new _ _, rfl, hq⟩
theorem round2 {w V : World} {o : Obj} {x y z : Value} {n : Node} {kids : List Part} {q : Part} (hV : Below (w.alloc o).drew.heap.size (w.alloc o).drew V) (hrow : Hid (V.heap[w.heap.size]? = some (.cells #[x, y, z] 49 (0, 0)))) (hq : nodeC n kids = 0 → q = (madeL n (truthK n.kind) (wantsK n.kind) kids).1) :
    Round w (((V.setCell ⟨w.heap.size, 0, none⟩ (.bool q.truth)).setCell ⟨w.heap.size, 1, none⟩ (.bool q.constant)).setCell ⟨w.heap.size, 2, none⟩ (.int .u32 q.value)) kids n (.pointer (some ⟨w.heap.size, 0, none⟩)) (.int .i64 (nodeC n kids)) :=
  ⟨(((belowA hV).setCell (Nat.le_refl _) _).setCell (Nat.le_refl _) _).setCell (Nat.le_refl _) _, w.heap.size, q, rfl, Nat.le_refl _, row3 hrow.out _ _ _, rfl, hq⟩
theorem own_push {w6 : World} {base gg cap m : Nat} {sk : List Part} {P : Part} {L : List Value} (hm : m ≤ sk.length) (hL : L = (sk.take m).flatMap partL) (h : w6.ownsRow base 49 3 (.slice (some ⟨gg, 0, none⟩) (m + 1) cap) (m + 1) (L ++ [.bool P.truth, .bool P.constant, .int .u32 P.value])) :
    Value.slice (some ⟨gg, 0, none⟩) (m + 1) cap = .slice (some ⟨gg, 0, none⟩) (sk.take m ++ [P]).length cap ∧ (sk.take m ++ [P]).length ≤ cap ∧ (sk.take m ++ [P]).length = m + 1 ∧ OwnR w6 base (.slice (some ⟨gg, 0, none⟩) (sk.take m ++ [P]).length cap) (sk.take m ++ [P]) := by
  have hl : (sk.take m ++ [P]).length = m + 1 := by rw [List.length_append, List.length_take]; simp; omega
  have hc := own_cap h
  refine ⟨by rw [hl], by omega, hl, ?_⟩
  unfold OwnR
  rw [hl, List.flatMap_append, ← hL]
  exact h
theorem inv_push {sk : List Part} {m : Nat} {P : Part} (h : ∀ p ∈ sk, PInv p) (hP : PInv P) : ∀ p ∈ sk.take m ++ [P], PInv p := fun p hp => by
  rcases List.mem_append.1 hp with hp | hp
  · exact h p (List.mem_of_mem_take hp)
  · rw [List.mem_singleton.1 hp]; exact hP
set_option maxRecDepth 100000 in
set_option maxHeartbeats 3200000 in
theorem refwalk_any (A : Option Addr) (c : Nat) (ns : List Node) (w : World) (hA : Ns w A ns) (hok : NodesOk ns) :
    Calls Try.prog 26 #[.slice A ns.length c] w fun e w' => ∃ v, e = .returned (.tuple #[v, .int .i64 (refT ns 0 []).1, .int .i64 (refT ns 0 []).2.1]) ∧ Below w.heap.size w w' ∧ ((refT ns 0 []).2.1 = 0 → OwnR w' w.heap.size v (refT ns 0 []).2.2) := by
  have HA := Lib.hid hA
  have HO := Lib.hid hok
  have hnl := hok.len
  obtain ⟨R, hR⟩ : ∃ r, refT ns 0 [] = r := ⟨_, rfl⟩
  rw [hR]
  have HR := Lib.hid hR
  clear hA hok hR
  go_enter Try.func26, Try.ntmps26
  go_wp2_with fail
  go_loopw [5, 6] (fun v x wr => ∃ (i : Nat) (sk : List Part) (A0 : Option Addr) (c0 : Nat), v = .slice A0 sk.length c0 ∧ sk.length ≤ c0 ∧ i ≤ ns.length ∧ x = .int .i64 i ∧ sk.length ≤ i ∧ refT (ns.drop i) i sk = R ∧ (∀ p ∈ sk, PInv p) ∧ Below w.heap.size w wr ∧ OwnR wr w.heap.size v sk) (fun _ x _ => ns.length - (intOf x).toNat)
  case atStart => exact ⟨0, [], none, 0, rfl, Nat.le_refl _, by omega, rfl, Nat.le_refl _, HR.out, (fun p hp => by cases hp), Below.refl _ _, ⟨rfl, .inl ⟨rfl, rfl⟩⟩⟩
  case round =>
    obtain ⟨i, sk, v0, c0, rfl, hvc, hi, rfl, hsl, hrun, hinv, hB, hown⟩ := hrel
    have Hrun := Lib.hid hrun
    have HB := Lib.hid hB
    have Hinv := Lib.hid hinv
    have Hown := Lib.hid hown
    clear hrun hB hinv hown
    by_cases hlt : i < ns.length
    · obtain ⟨b, o, rfl, hn⟩ := (HA.out.later HB.out) (by omega)
      have h1 := hn i hlt
      have hmem := getD_mem hlt
      have hdrop : ns.drop i = ns.getD i Node.zero :: ns.drop (i + 1) := by
        rw [List.drop_eq_getElem_cons hlt, List.getD_eq_getElem?_getD, List.getElem?_eq_getElem hlt]
        rfl
      obtain ⟨n, hnn⟩ : ∃ n, ns.getD i Node.zero = n := ⟨_, rfl⟩
      rw [hnn] at h1 hmem hdrop
      have hi0 : (0 : Int) ≤ (i : Int) := by omega
      have hi1 : (i : Int) < (ns.length : Int) := by omega
      have k0 : wr.cell? ⟨b, o + i * 24, none⟩ = some (.int .i64 n.kind) := by
        have := nodeIn_of h1 0 _ rfl
        rwa [add_plain, Nat.add_zero] at this
      have hby := HO.out.bytes n hmem
      have hun := HO.out.u32 n hmem
      have hrun := Hrun.out
      rw [hdrop] at hrun
      unfold refT at hrun
      have Hrun2 := Lib.hid hrun
      have Hby := Lib.hid hby
      have Hun := Lib.hid hun
      have H1 := Lib.hid h1
      clear hn hnn hdrop hmem hrun hby hun h1
      go_wp2_with fail
      refine (refarity_any _ _).mono ?_
      rintro e w2 ⟨rfl, rfl⟩
      cases har : arityK n.kind with
      | none =>
        rw [arI_none har]
        have hr := Hrun2.out
        rw [har] at hr
        have Hr := Lib.hid hr
        clear hr har
        go_wp2_with fail
        go_ret3
        rw [← Hr.out]
        exact ⟨_, rfl, HB.out, fun e => by cases e⟩
      | some a =>
        rw [arI_some har]
        have hr := Hrun2.out
        rw [har] at hr
        simp only at hr
        have ha2 := (arityK_range har).2.2
        have Har := Lib.hid har
        by_cases hla : sk.length < a
        · rw [if_pos hla] at hr
          have Hr := Lib.hid hr
          have hla2 : (sk.length : Int) < (a : Int) := by omega
          have ha3 : (0 : Int) ≤ (a : Int) := by omega
          clear hr har
          go_wp2_with fail
          go_ret3
          rw [← Hr.out]
          exact ⟨_, rfl, HB.out, fun e => by cases e⟩
        · rw [if_neg hla] at hr
          have Hr := Lib.hid hr
          have hla2 : ¬ (sk.length : Int) < (a : Int) := by omega
          have ha3 : (0 : Int) ≤ (a : Int) := by omega
          obtain ⟨m, hm⟩ : ∃ m : Nat, sk.length - a = m := ⟨_, rfl⟩
          have Hm := Lib.hid hm
          have hsub : IntKind.i64.wrap ((sk.length : Int) - (a : Int)) = (m : Int) := by
            rw [show (sk.length : Int) - (a : Int) = (m : Int) from by omega]
            exact IntWalk.i64_in _ (by omega)
          have hma : (a : Int) ≤ 2 := by omega
          obtain ⟨kids, hkids⟩ : ∃ l, sk.drop m = l := ⟨_, rfl⟩
          have hkl : kids.length = a := by rw [← hkids, List.length_drop]; omega
          have hki : ∀ p ∈ kids, PInv p := fun p hp => Hinv.out p (List.mem_of_mem_drop (by rw [hkids]; exact hp))
          have Hkids := Lib.hid hkids
          have Hkl := Lib.hid hkl
          have Hki := Lib.hid hki
          clear hr har hm hkids hkl hki
          go_upto_region 8 with fail
          go_cut [8, 9] (fun s8 s9 W => Round wr W kids n s8 s9)
          case first =>
            have hbl : b < wr.heap.size := nodeAt_lt H1.out
            have hn1 := H1.out
            have hm0 := Hm.out
            have i1 : (0 : Int) ≤ (m : Int) := by omega
            have i2 : (m : Int) ≤ (sk.length : Int) := by omega
            have hm3 : sk.length - m = a := by omega
            have Hm3 := Lib.hid hm3
            have i3 : (m : Int) ≤ (c0 : Int) := by omega
            clear hm0 hm3
            rcases ownR_form Hown.out with ⟨e1, e2⟩ | ⟨g, c1, e1, e2, e3, e4, e5⟩
            · subst e2
              cases e1
              have hK : Ks wr none kids := by rw [← Hkids.out, List.drop_nil]; intro h; cases h
              have HK := Lib.hid hK
              have hm1 : m = 0 := by have := i2; simp at this; omega
              have ha1 : a = 0 := by simp at hla; omega
              subst hm1
              subst ha1
              clear hK hsub
              have hw0 : IntKind.i64.wrap 0 = 0 := by decide
              go_region_held3 (fun w' => nodeAt w' ⟨b, o + i * 24, none⟩ = some n ∧ Below wr.heap.size wr w')
                (first | exact ⟨hn1, (Below.refl _ _).drew⟩ | exact keepF (by assumption) (by assumption) | exact keepF (by assumption) ((Below.refl _ _).alloc (Nat.le_refl _) _) | exact keepF ⟨hn1, Below.refl _ _⟩ (((Below.refl _ _).alloc (Nat.le_refl _) _).drew) | exact keepF ⟨hn1, Below.refl _ _⟩ ((belowD (by assumption)).alloc (belowD (by assumption)).size _) | exact keepF ⟨hn1, Below.refl _ _⟩ ((((belowA (by assumption)).setCell (Nat.le_refl _) _).setCell (Nat.le_refl _) _).setCell (Nat.le_refl _) _) | assumption)
                ((go_at_call 36; first | (refine (node_at (V := wr.drew) HK.out (And.right (by assumption)) Hkl.out.symm Har.out Hkl.out Hby.out Hun.out Hki.out).mono ?_; rintro e V1 ⟨hV1, q, rfl, hq⟩) | (refine (node_at1 (V := (wr.alloc (.cells #[.bool false, .bool false, .int .u32 0] 49)).drew) (B := wr.heap.size) (row_new1 _ _) HK.out (And.right (by assumption)) Hkl.out.symm Har.out Hkl.out Hby.out Hun.out Hki.out).mono ?_; rintro e V1 ⟨hV1, q, rfl, hq, Hro, Hbo, r0, r1, r2, z0, z1, z2⟩)))
              all_goals
                go_wp2_with fail
                go_meet
                first | exact round1 hV1 hq | exact round2 hV1 Hro hq
            · cases e1
              have hK : Ks wr (some ⟨g, m * 3, none⟩) kids := by rw [← Hkids.out]; exact ownR_kids Hown.out (by omega)
              have HK := Lib.hid hK
              clear hK
              by_cases hmc : m = c0
              · subst hmc
                have hK0 : Ks wr (some ⟨g, 0, none⟩) kids := by intro h; have := Hkl.out; have := Hm.out; omega
                have HK0 := Lib.hid hK0
                have hm00 := Lib.hid (show 0 = a by have := Hm.out; omega)
                clear hK0
                go_region_held3 (fun w' => nodeAt w' ⟨b, o + i * 24, none⟩ = some n ∧ Below wr.heap.size wr w')
                  (first | exact ⟨hn1, (Below.refl _ _).drew⟩ | exact keepF (by assumption) (by assumption) | exact keepF (by assumption) ((Below.refl _ _).alloc (Nat.le_refl _) _) | exact keepF ⟨hn1, Below.refl _ _⟩ (((Below.refl _ _).alloc (Nat.le_refl _) _).drew) | exact keepF ⟨hn1, Below.refl _ _⟩ ((belowD (by assumption)).alloc (belowD (by assumption)).size _) | exact keepF ⟨hn1, Below.refl _ _⟩ ((((belowA (by assumption)).setCell (Nat.le_refl _) _).setCell (Nat.le_refl _) _).setCell (Nat.le_refl _) _) | assumption)
                  ((go_at_call 36; first | (refine (node_at (V := wr.drew) HK0.out (And.right (by assumption)) (hm00.out.trans Hkl.out.symm) Har.out Hkl.out Hby.out Hun.out Hki.out).mono ?_; rintro e V1 ⟨hV1, q, rfl, hq⟩) | (refine (node_at1 (V := (wr.alloc (.cells #[.bool false, .bool false, .int .u32 0] 49)).drew) (B := wr.heap.size) (row_new1 _ _) HK0.out (And.right (by assumption)) (hm00.out.trans Hkl.out.symm) Har.out Hkl.out Hby.out Hun.out Hki.out).mono ?_; rintro e V1 ⟨hV1, q, rfl, hq, Hro, Hbo, r0, r1, r2, z0, z1, z2⟩)))
                all_goals
                  go_wp2_with fail
                  go_meet
                  first | exact round1 hV1 hq | exact round2 hV1 Hro hq
              · have hmc2 : ¬ c0 = m := fun h => hmc h.symm
                have hn1 := H1.out
                go_region_held3 (fun w' => nodeAt w' ⟨b, o + i * 24, none⟩ = some n ∧ Below wr.heap.size wr w')
                  (first | exact ⟨hn1, (Below.refl _ _).drew⟩ | exact keepF (by assumption) (by assumption) | exact keepF (by assumption) ((Below.refl _ _).alloc (Nat.le_refl _) _) | exact keepF ⟨hn1, Below.refl _ _⟩ (((Below.refl _ _).alloc (Nat.le_refl _) _).drew) | exact keepF ⟨hn1, Below.refl _ _⟩ ((belowD (by assumption)).alloc (belowD (by assumption)).size _) | exact keepF ⟨hn1, Below.refl _ _⟩ ((((belowA (by assumption)).setCell (Nat.le_refl _) _).setCell (Nat.le_refl _) _).setCell (Nat.le_refl _) _) | assumption)
                  ((go_at_call 36; first | (refine (node_at (V := wr.drew) HK.out (And.right (by assumption)) (Hm3.out.trans Hkl.out.symm) Har.out Hkl.out Hby.out Hun.out Hki.out).mono ?_; rintro e V1 ⟨hV1, q, rfl, hq⟩) | (refine (node_at1 (V := (wr.alloc (.cells #[.bool false, .bool false, .int .u32 0] 49)).drew) (B := wr.heap.size) (row_new1 _ _) HK.out (And.right (by assumption)) (Hm3.out.trans Hkl.out.symm) Har.out Hkl.out Hby.out Hun.out Hki.out).mono ?_; rintro e V1 ⟨hV1, q, rfl, hq, Hro, Hbo, r0, r1, r2, z0, z1, z2⟩)))
                all_goals
                  go_wp2_with fail
                  go_meet
                  first | exact round1 hV1 hq | exact round2 hV1 Hro hq
          case rest =>
            obtain ⟨hbel, p, q, rfl, hp, hrow, rfl, hq⟩ := hcut
            have hr := Hr.out
            rw [Hm.out, Hkids.out, ← nodeC_eq] at hr
            obtain ⟨code, hcode⟩ : ∃ x, nodeC n kids = x := ⟨_, rfl⟩
            rw [hcode] at hr hq ⊢
            have Hb2 := Lib.hid (HB.out.trans (hbel.mono HB.out.size))
            have Hbel := Lib.hid hbel
            have Hrow := Lib.hid hrow
            obtain ⟨p0, p1, p2⟩ := row_cells hrow
            clear hbel hrow hcode
            by_cases hc0 : code = 0
            · subst hc0
              obtain rfl := hq rfl
              simp only [ne_eq, not_true, if_false] at hr
              obtain ⟨P, hP⟩ : ∃ x, (madeL n (truthK n.kind) (wantsK n.kind) kids).1 = x := ⟨_, rfl⟩
              rw [hP] at hr p0 p1 p2
              have HP := Lib.hid hP
              have Hr2 := Lib.hid hr
              have hPi : PInv P := by rw [← HP.out]; exact made_inv Hki.out Hun.out
              have HPi := Lib.hid hPi
              clear hq hr hP hPi
              obtain ⟨j0, hj0, hz0, hz1, hz2⟩ := info_parts partInfos
              have Hz0 := Lib.hid hz0
              have Hz1 := Lib.hid hz1
              have Hz2 := Lib.hid hz2
              clear hz0 hz1 hz2
              go_upto_region 11 with fail
              rcases ownR_form Hown.out with ⟨e1, e2⟩ | ⟨g, c1, e1, e2, e3, e4, e5⟩
              · subst e2
                cases e1
                have hm1 : m = 0 := by have := Hm.out; simp at this; omega
                subst hm1
                have ha1 : a = 0 := by simp at hla; omega
                subst ha1
                clear hsub
                have hown5 : wc.ownsRow w.heap.size 49 3 (.slice none 0 0) 0 [] := ⟨rfl, .inl ⟨rfl, rfl⟩⟩
                have Hown5 := Lib.hid hown5
                clear hown5
                have hw0 : IntKind.i64.wrap 0 = 0 := by decide
                go_region_law (refine step_append_lies _ (by rfl) _ _ _ (by rfl) w.heap.size 49 j0 _ 3 8 Try.underlying45 hj0 Hz0.out Hz1.out Hz2.out rfl (by omega) (.slice none 0 0) 0 [] (by rfl) ((Hown5.out.alloc _).drew) ⟨wc.heap.size, 0, none⟩ 1 1 [.bool P.truth, .bool P.constant, .int .u32 P.value] (by rfl) (by rfl) (World.news_of_block (cs := #[.bool P.truth, .bool P.constant, .int .u32 P.value]) (t := 49) (fr := (0, 0)) (heap_alloc_new _ _)) (Part.enc1 P) (by omega) (by simp only [maxLen]; omega) (by omega) (by have := Hb2.out.size; simp; omega) (wc.heap.size + 1) (by simp) ?_; intro gg cap w6 hown6 hgrow hat hlt6)
                all_goals
                  have hb6 : Below w.heap.size w w6 := ((Hb2.out.alloc Hb2.out.size _).drew).grown hgrow (by have := Hb2.out.size; simp; omega) (fun k e => by cases e)
                  obtain ⟨f1, f2, f3, f4⟩ := own_push (m := 0) (sk := []) (Nat.le_refl _) rfl hown6
                  have F1 := Lib.hid f1
                  have F2 := Lib.hid f2
                  have F3 := Lib.hid f3
                  have F4 := Lib.hid f4
                  have Hb6 := Lib.hid hb6
                  clear hown6 hgrow hat hb6 f1 f2 f3 f4
                  go_wp2_with fail
                  go_round
                  case rel => exact ⟨i + 1, [].take 0 ++ [P], some ⟨gg, 0, none⟩, cap, F1.out, F2.out, by omega, by go_num, by rw [F3.out]; omega, Hr2.out, inv_push Hinv.out HPi.out, Hb6.out, by rw [F1.out]; exact F4.out⟩
                  case measure => simp [intOf]; omega
              · cases e1
                have hml : m ≤ sk.length := by have := Hm.out; omega
                have i1 : (0 : Int) ≤ (m : Int) := by omega
                have i3 : (m : Int) ≤ (c0 : Int) := by omega
                have hown5 : wc.ownsRow w.heap.size 49 3 (.slice (some ⟨g, 0, none⟩) m c0) m ((sk.take m).flatMap partL) := own_later (ownR_take Hown.out hml) fun b hb => Hbel.out.block b (own_lt (ownR_take Hown.out hml) hb).2
                have Hown5 := Lib.hid hown5
                clear hown5
                go_region_law (refine step_append_lies _ (by rfl) _ _ _ (by rfl) w.heap.size 49 j0 _ 3 8 Try.underlying45 hj0 Hz0.out Hz1.out Hz2.out rfl (by omega) (.slice (some ⟨g, 0, none⟩) m c0) m ((sk.take m).flatMap partL) (by rfl) ((Hown5.out.alloc _).drew) ⟨wc.heap.size, 0, none⟩ 1 1 [.bool P.truth, .bool P.constant, .int .u32 P.value] (by rfl) (by rfl) (World.news_of_block (cs := #[.bool P.truth, .bool P.constant, .int .u32 P.value]) (t := 49) (fr := (0, 0)) (heap_alloc_new _ _)) (Part.enc1 P) (by omega) (by simp only [maxLen]; omega) (by omega) (by have := Hb2.out.size; simp; omega) (wc.heap.size + 1) (by simp) ?_; intro gg cap w6 hown6 hgrow hat hlt6)
                all_goals
                  have hb6 : Below w.heap.size w w6 := ((Hb2.out.alloc Hb2.out.size _).drew).grown hgrow (by have := Hb2.out.size; simp; omega) (fun k e => by cases e; exact e4)
                  obtain ⟨f1, f2, f3, f4⟩ := own_push hml rfl hown6
                  have F1 := Lib.hid f1
                  have F2 := Lib.hid f2
                  have F3 := Lib.hid f3
                  have F4 := Lib.hid f4
                  have Hb6 := Lib.hid hb6
                  clear hown6 hgrow hat hb6 f1 f2 f3 f4
                  go_wp2_with fail
                  go_round
                  case rel => exact ⟨i + 1, sk.take m ++ [P], some ⟨gg, 0, none⟩, cap, F1.out, F2.out, by omega, by go_num, by rw [F3.out]; omega, Hr2.out, inv_push Hinv.out HPi.out, Hb6.out, by rw [F1.out]; exact F4.out⟩
                  case measure => simp [intOf]; omega
            · rw [if_pos hc0] at hr
              have hcb : (code == 0) = false := by simp [hc0]
              have Hr2 := Lib.hid hr
              clear hr hq
              go_wp2_with fail
              go_ret3
              rw [← Hr2.out]
              exact ⟨_, rfl, Hb2.out, fun e => absurd e hc0⟩
    · have hr := Hrun.out
      rw [List.drop_of_length_le (by omega)] at hr
      have hr : ((0 : Int), (0 : Int), sk) = R := hr
      have Hr := Lib.hid hr
      have hi1 : ¬ (i : Int) < (ns.length : Int) := by omega
      clear hr
      go_wp2_with fail
      go_ret3
      rw [← Hr.out]
      exact ⟨_, rfl, HB.out, fun _ => Hown.out⟩
end Go.Proofs.Ytedhlofmkehfkaa
