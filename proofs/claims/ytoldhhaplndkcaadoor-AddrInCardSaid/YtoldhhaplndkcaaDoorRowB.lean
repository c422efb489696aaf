/- Lists of bytes: Same, Copy, Lend, Kept, Spoil. -/
import Derived.Test.YtoldhhaplndkcaaDoorStrs
import Derived.Great.BuildSlice
namespace Go.Proofs.YtoldhhaplndkcaaDoor
open Go.RowKit Go.Shelf
set_option linter.unusedVariables false
set_option linter.unusedSimpArgs false

abbrev encU1 (x : UInt8) : List Value := [.int .u8 (x.toNat : Int)]
theorem encU1_ok : EncOk 1 encU1 := ⟨fun _ => rfl, fun a v hv => by
  simp only [encU1, List.mem_singleton] at hv
  subst hv
  rfl, by decide⟩
theorem infoU1 : (Tryd.prog.info? 5).map (fun i => (i.zero, i.size, i.bytes)) = some (some (.int .u8 0), 1, 1) := by kernel_rfl
theorem bytes_cell {w : World} {b o i : Nat} {xs : List UInt8} {x : UInt8} (h : Rs encU1 w (some ⟨b, o, none⟩) xs) (hi : xs[i]? = some x) : w.cell? ⟨b, o + i, none⟩ = some (.int .u8 (x.toNat : Int)) := by
  have := h.cell encU1_ok hi (j := 0) rfl
  simpa only [Nat.mul_one, Nat.add_zero] using this
abbrev marksU : List UInt8 := [201, 201, 201]
theorem bytes_ne {x y : UInt8} (h : ¬ x = y) : ((x.toNat : Int) != (y.toNat : Int)) = true := by
  rw [bne_iff_ne]
  intro e
  exact h (UInt8.toNat_inj.1 (by omega))
theorem bytes_eq {x y : UInt8} (h : x = y) : ((x.toNat : Int) != (y.toNat : Int)) = false := by
  subst h
  simp
set_option maxHeartbeats 1000000 in
theorem sameU_any (A B : Option Addr) (c d : Nat) (xs ys : List UInt8) (w : World) (hA : Rs encU1 w A xs) (hB : Rs encU1 w B ys) (hl : xs.length ≤ 4611686018427387904) (hl2 : ys.length ≤ 4611686018427387904) :
    Calls Tryd.prog 23 #[.slice A xs.length c, .slice B ys.length d] w fun e w' => e = .returned (.bool (decide (xs = ys))) ∧ Below w.heap.size w w' := by
  by_cases hlen : xs.length = ys.length
  · have HA := Lib.hid hA
    have HB := Lib.hid hB
    have Hlen := Lib.hid hlen
    clear hA hB
    rw [← hlen]
    clear hlen
    go_enter Tryd.func23, Tryd.ntmps23
    go_wp2_with fail
    go_loopw [5] (fun x wr => ∃ i : Nat, i ≤ xs.length ∧ x = .int .i64 i ∧ xs.take i = ys.take i ∧ Below w.heap.size w wr) (fun x _ => xs.length - (intOf x).toNat)
    case atStart => exact ⟨0, by omega, rfl, rfl, Below.refl _ _⟩
    case round =>
      obtain ⟨i, hi, rfl, htake, hBB⟩ := hrel
      have Htake := Lib.hid htake
      have HBB := Lib.hid hBB
      clear htake hBB
      by_cases hlt : i < xs.length
      · obtain ⟨b, o, rfl, -⟩ := HA.out (by omega)
        obtain ⟨b2, o2, rfl, -⟩ := HB.out (by rw [← Hlen.out]; omega)
        obtain ⟨x, hx⟩ : ∃ x, xs[i]? = some x := ⟨_, List.getElem?_eq_getElem hlt⟩
        obtain ⟨y, hy⟩ : ∃ y, ys[i]? = some y := ⟨_, List.getElem?_eq_getElem (by rw [← Hlen.out]; exact hlt)⟩
        have c0 := bytes_cell (HA.out.later HBB.out) hx
        have e0 := bytes_cell (HB.out.later HBB.out) hy
        have Hx := Lib.hid hx
        have Hy := Lib.hid hy
        have hi0 : (0 : Int) ≤ (i : Int) := by omega
        have hi1 : (i : Int) < (xs.length : Int) := by omega
        clear hx hy
        by_cases hd : x = y
        · have hxy := Lib.hid hd
          have d1 := bytes_eq hd
          clear hd
          go_wp2_with fail
          go_quiet (fail)
          go_wp2_with fail
          go_roundw
          case rel => exact ⟨i + 1, by omega, by go_num, by rw [take_succ_getD Hx.out, take_succ_getD Hy.out, Htake.out, hxy.out], belowN HBB.out _⟩
          case measure => simp [intOf]; omega
        · have hxy := Lib.hid hd
          have d1 := bytes_ne hd
          clear hd
          go_wp2_with fail
          go_quiet (fail)
          go_wp2_with fail
          go_ret
          refine ⟨?_, belowN HBB.out _⟩
          have hne : ¬ xs = ys := fun h => hxy.out (by have h1 := Hx.out; rw [h, Hy.out] at h1; exact (Option.some.inj h1).symm)
          simp [hne]
      · have hie : i = xs.length := by omega
        have heq : xs = ys := by
          have h := Htake.out
          rw [List.take_of_length_le (by omega), List.take_of_length_le (by rw [← Hlen.out]; omega)] at h
          exact h
        have Heq := Lib.hid heq
        clear heq hie
        go_wp2
        go_ret
        exact ⟨by simp [Heq.out], HBB.out⟩
  · have hne : ¬ xs = ys := fun h => hlen (by rw [h])
    have Hne := Lib.hid hne
    have hb : ((xs.length : Int) == (ys.length : Int)) = false := by simp; omega
    have hb2 : ¬ ((xs.length : Int) = (ys.length : Int)) := by omega
    clear hA hB hne
    go_enter Tryd.func23, Tryd.ntmps23
    go_wp2
    go_ret
    exact ⟨by simp [Hne.out], Below.refl _ _⟩
theorem sameU_yes (A B : Option Addr) (c d : Nat) (xs : List UInt8) (w : World) (hA : Rs encU1 w A xs) (hB : Rs encU1 w B xs) (hl : xs.length ≤ 4611686018427387904) :
    Calls Tryd.prog 23 #[.slice A xs.length c, .slice B xs.length d] w fun e w' => e = .returned (.bool true) ∧ Below w.heap.size w w' :=
  (sameU_any A B c d xs xs w hA hB hl hl).mono fun e w' h => ⟨by rw [h.1]; simp, h.2⟩
set_option maxRecDepth 100000 in
set_option maxHeartbeats 1000000 in
theorem spoilU_any (base : Nat) (A : Option Addr) (n c : Nat) (xs : List Value) (w : World) (hown : w.ownsRow base 5 1 (.slice A n c) n xs) (hn : n ≤ 140737488351232 + 10) :
    Calls Tryd.prog 24 #[.slice A n c] w fun e w' => e = .returned (.tuple #[]) ∧ w.grownBy w' (Value.slice A n c).ownBlock := by
  obtain ⟨i0, hi0, hz0, hz1, hz2⟩ := info_parts infoU1
  have Hz0 := Lib.hid hz0
  have Hz1 := Lib.hid hz1
  have Hz2 := Lib.hid hz2
  clear hz0 hz1 hz2
  have hx : ((w.alloc (.cells (flatG encU1 [201]).toArray 5)).heap[w.heap.size]? = some (.cells (flatG encU1 [201]).toArray 5 (0, 0))) := heap_alloc_new w _
  have Hx := Lib.hid (rs_news hx)
  clear hx
  have hown1 : (w.alloc (.cells (flatG encU1 [201]).toArray 5)).ownsRow base 5 1 (.slice A n c) n xs := own_later hown fun b hb => Below.heap_alloc _ _ _ (own_lt hown hb).2
  obtain ⟨row, hrow⟩ : ∃ r, (Value.slice A n c).ownBlock = r := ⟨_, rfl⟩
  rw [hrow]
  have hAn : A = none ∧ n = 0 ∧ c = 0 ∨ ∃ g, A = some ⟨g, 0, none⟩ := by
    rcases hown.2 with ⟨e, h0⟩ | ⟨g, cap, cur, e, _⟩
    · cases e; exact .inl ⟨rfl, h0, rfl⟩
    · cases e; exact .inr ⟨g, rfl⟩
  have HO := Lib.hid hown
  have HO1 := Lib.hid hown1
  have HR := Lib.hid hrow
  have HAn := Lib.hid hAn
  clear hown hown1 hrow hAn
  go_enter Tryd.func24, Tryd.ntmps24
  go_upto_region 0 with fail
  go_cut [2] (fun s2 W => ∃ g2 cap, s2 = .slice (some ⟨g2, 0, none⟩) (n + 1) cap ∧ Room 1 5 W g2 (n + 1) ∧ (∀ g, A = some ⟨g, 0, none⟩ → Room 1 5 W g n) ∧ w.grownBy W row ∧ (w.heap.size ≤ g2 ∨ row = some g2))
  case first =>
    by_cases hr : n + 1 ≤ c
    · obtain ⟨g, rfl⟩ : ∃ g, A = some ⟨g, 0, none⟩ := by
        rcases HAn.out with ⟨_, h1, h2⟩ | h
        · omega
        · exact h
      go_wp2_with (at_builtin; refine wpList_append_own_spare _ rfl _ _ 34 rfl base 5 i0 1 Tryd.underlying34 hi0 Hz1.out g n c xs rfl HO1.out ⟨w.heap.size, 0, none⟩ 1 1 (flatG encU1 [201]) rfl rfl Hx.out (flatG_one encU1_ok _) hr ?_; intro w2 hown2 hgrow)
      go_meet
      have hrm := Room.of_own hown2
      exact ⟨g, c, rfl, hrm, fun g' e => by cases e; exact hrm.mono (by omega), by rw [← HR.out]; exact World.grownBy.trans (World.grownBy_alloc w _ _) hgrow, .inr (by rw [← HR.out]; rfl)⟩
    · go_wp2_with (at_builtin; refine wpList_append_grows _ rfl _ _ 34 rfl 5 i0 (.int .u8 0) 1 1 Tryd.underlying34 hi0 Hz0.out Hz1.out Hz2.out rfl (by decide) A n c xs rfl (fun e => by rcases HAn.out with h | ⟨g, h⟩; exact h.2; rw [e] at h; cases h) HO1.out.1 (own_cells HO1.out) ⟨w.heap.size, 0, none⟩ 1 1 (flatG encU1 [201]) rfl rfl Hx.out (flatG_one encU1_ok _) (by omega) (by simp only [maxLen]; omega) (by omega) ?_; intro v2 w2 hown2 hgrow)
      obtain ⟨g2, cap2, rfl, hge, hlt2⟩ := hown2.form (by omega)
      go_meet
      refine ⟨g2, cap2, rfl, Room.of_own hown2, fun g' e => ?_, (World.grownBy.trans (World.grownBy_alloc w _ _) hgrow).but row, .inl (by simp at hge; omega)⟩
      subst e
      obtain ⟨cur, q1, q2⟩ := Room.of_own HO1.out
      exact ⟨cur, (hgrow.block g' (Array.getElem?_eq_some_iff.1 q1).1 (by simp)).trans q1, q2⟩
  case rest =>
    obtain ⟨g2, cap, rfl, hr2, hrA, hg, hg2⟩ := hcut
    have Hr2 := Lib.hid hr2
    have HrA := Lib.hid hrA
    have Hg := Lib.hid hg
    have Hg2 := Lib.hid hg2
    clear hr2 hrA hg hg2
    go_wp2_with fail
    go_loopw [3] (fun x wr => ∃ i : Nat, i ≤ n + 1 ∧ x = .int .i64 i ∧ Room 1 5 wr g2 (n + 1) ∧ (∀ g, A = some ⟨g, 0, none⟩ → Room 1 5 wr g n) ∧ w.grownBy wr row) (fun x _ => n + 1 - (intOf x).toNat)
    case atStart => exact ⟨0, by omega, rfl, Hr2.out, HrA.out, Hg.out⟩
    case round =>
      obtain ⟨i, hi, rfl, k1, k2, k3⟩ := hrel
      by_cases hlt : i < n + 1
      · have ht := k1.there hlt 0 (by decide)
        simp only [Nat.mul_one, Nat.add_zero] at ht
        obtain ⟨a0, b0⟩ := ht
        obtain ⟨v0, a0⟩ := Option.isSome_iff_exists.1 a0
        have hsz := k1.lt
        have K1 := Lib.hid k1
        have K2 := Lib.hid k2
        have K3 := Lib.hid k3
        have hi0 : (0 : Int) ≤ (i : Int) := by omega
        have hi1 : (i : Int) < (n : Int) + 1 := by omega
        clear k1 k2 k3
        go_wp2_with fail
        go_round
        case rel => exact ⟨i + 1, by omega, by go_num, room_setCell K1.out _ _ _, fun g e => room_setCell (K2.out g e) _ _ _, K3.out.andThen (grown_setCell _ _ _ _) (fun j e => by cases e; exact Hg2.out)⟩
        case measure => simp [intOf]; omega
      · have K2 := Lib.hid k2
        have K3 := Lib.hid k3
        have hi1 : ¬ ((i : Int) < (n : Int) + 1) := by omega
        have hie : i = n + 1 := by omega
        subst hie
        clear k1 k2 k3
        go_wp2_with fail
        go_loopw [4] (fun x wr => ∃ i : Nat, i ≤ n ∧ x = .int .i64 i ∧ (∀ g, A = some ⟨g, 0, none⟩ → Room 1 5 wr g n) ∧ w.grownBy wr row) (fun x _ => n - (intOf x).toNat)
        case atStart => exact ⟨0, by omega, rfl, K2.out, K3.out⟩
        case round =>
          obtain ⟨i, hi, rfl, k2, k3⟩ := hrel
          by_cases hlt : i < n
          · obtain ⟨g, rfl⟩ : ∃ g, A = some ⟨g, 0, none⟩ := by
              rcases HAn.out with ⟨_, h1, h2⟩ | h
              · omega
              · exact h
            have ht := (k2 g rfl).there hlt 0 (by decide)
            simp only [Nat.mul_one, Nat.add_zero] at ht
            obtain ⟨a0, b0⟩ := ht
            obtain ⟨v0, a0⟩ := Option.isSome_iff_exists.1 a0
            have hsz := (k2 g rfl).lt
            have K2 := Lib.hid k2
            have K3 := Lib.hid k3
            have hi0 : (0 : Int) ≤ (i : Int) := by omega
            have hi1 : (i : Int) < (n : Int) := by omega
            clear k2 k3
            go_wp2_with fail
            go_round
            case rel => exact ⟨i + 1, by omega, by go_num, fun g' e => room_setCell (K2.out g' e) _ _ _, K3.out.andThen (grown_setCell _ _ _ _) (fun j e => by cases e; exact .inr (by rw [← HR.out]; rfl))⟩
            case measure => simp [intOf]; omega
          · have K3 := Lib.hid k3
            clear k2 k3
            have hi1 : ¬ ((i : Int) < (n : Int)) := by omega
            go_wp2
            go_end0
            exact ⟨rfl, K3.out⟩
theorem run_append_emptyU {P : Program} (w : World) (t ty e : TypeId) (i : TypeInfo) (ht : P.underlying t = some (.slice e)) (hi : P.info? e = some i) (b o n cap c : Nat) (A : Option Addr) (hn : n ≤ cap) (hA : A = none → c = 0) :
    (Builtin.append_ #[t, t] ty #[.slice (some ⟨b, o, none⟩) n cap, .slice A 0 c]).run P w = .ok (.slice (some ⟨b, o, none⟩) n cap) w := by
  cases A with
  | none => simp [Builtin.append_, run_underlying ht, sizeOf, typeInfo, hi, Builtin.lenOf, Builtin.firstCells, loadCells, loadCellsFrom, storeCells, hn]
  | some a => simp [Builtin.append_, run_underlying ht, sizeOf, typeInfo, hi, Builtin.lenOf, Builtin.firstCells, loadCells, loadCellsFrom, storeCells, hn]
theorem wpList_append_emptyU {P : Program} {ops : Array Oper} {rest : List Oper} {o : Oper} {a : Act} {Q : Exit → Act → World → Prop} (w : World) (hgd : o.guard = none) (s x : Operand) (t : TypeId)
    (ho : o.op = .call { callee := .builtin .append, args := #[s, x], argTypes := #[t, t] }) (e : TypeId) (i : TypeInfo) (ht : P.underlying t = some (.slice e)) (hi : P.info? e = some i) (b p n cap c : Nat) (A : Option Addr)
    (hs : a.eval s = .slice (some ⟨b, p, none⟩) n cap) (hx : a.eval x = .slice A 0 c) (hn : n ≤ cap) (hA : A = none → c = 0)
    (h : wpList P ops Q rest (a.put o.dst (.slice (some ⟨b, p, none⟩) n cap)) w) : wpList P ops Q (o :: rest) a w :=
  wpList_plain hgd fun _ hK => by
    have hr := run_append_emptyU (P := P) w t o.type e i ht hi b p n cap c A hn hA
    unfold Oper.wp execOp
    simp only [ho, resolve, invoke, builtin, Sem.run_bind, Sem.run_pure, Result.andThen_ok, List.map_toArray, List.map_cons, List.map_nil, hs, hx, hr]
    exact hK _ _ h
set_option maxRecDepth 100000 in
set_option maxHeartbeats 1000000 in
theorem copyU_any (A : Option Addr) (c : Nat) (ns : List UInt8) (w : World) (hA : Rs encU1 w A ns) (hl : ns.length ≤ 140737488351232 + 10) (hnil : A = none → c = 0) :
    Calls Tryd.prog 22 #[.slice A ns.length c] w fun e w' => ∃ g c2, e = .returned (.slice (some ⟨g, 0, none⟩) ns.length c2) ∧ OwnG 1 encU1 5 w' w.heap.size (.slice (some ⟨g, 0, none⟩) ns.length c2) ns ∧ Below w.heap.size w w' := by
  obtain ⟨i0, hi0, hz0, hz1, hz2⟩ := info_parts infoU1
  have Hz0 := Lib.hid hz0
  have Hz1 := Lib.hid hz1
  have Hz2 := Lib.hid hz2
  clear hz0 hz1 hz2
  have hB1 : Below w.heap.size w (w.alloc (.cells #[] 5)) := (Below.refl _ w).alloc (Nat.le_refl _) _
  have hown0 : (w.alloc (.cells #[] 5)).ownsRow w.heap.size 5 1 (.slice (some ⟨w.heap.size, 0, none⟩) 0 0) 0 [] := ⟨rfl, .inr ⟨w.heap.size, 0, #[], rfl, Nat.le_refl _, heap_alloc_new w _, Nat.le_refl _, Nat.zero_le _, rfl, rfl⟩⟩
  by_cases hp : 0 < ns.length
  · obtain ⟨b, o, rfl, hc0⟩ := (hA.later hB1) hp
    have hc : ∀ j u, (flatG encU1 ns)[j]? = some u → (w.alloc (.cells #[] 5)).cell? ((⟨b, o, none⟩ : Addr).add j) = some u := fun j u hu => by rw [add_plain]; exact hc0 j u hu
    clear hc0
    have hfl : (flatG encU1 ns).length = ns.length := by rw [flatG_length encU1_ok, Nat.mul_one]
    have HC := Lib.hid hc
    have HO := Lib.hid hown0
    have HB := Lib.hid hB1
    have HFl := Lib.hid hfl
    clear hc hown0 hB1 hA hfl
    go_enter Tryd.func22, Tryd.ntmps22
    go_wp2_with (at_builtin; refine wpList_append_lies _ rfl _ _ 34 rfl w.heap.size 5 i0 (.int .u8 0) 1 1 Tryd.underlying34 hi0 Hz0.out Hz1.out Hz2.out rfl (by decide) (.slice (some ⟨w.heap.size, 0, none⟩) 0 0) 0 [] rfl HO.out ⟨b, o, none⟩ ns.length c (flatG encU1 ns) rfl (by rw [HFl.out, Nat.mul_one]) HC.out (flatG_one encU1_ok ns) hp (by simp only [maxLen]; omega) (by omega) (by simp) (w.heap.size + 1) (by simp) ?_; intro g cap w2 hown hgrow hat hlt)
    go_ret
    rw [Nat.zero_add, List.nil_append] at hown
    exact ⟨g, cap, rfl, hown, HB.out.grown hgrow (by simp) (fun k e => by cases e; exact Nat.le_refl _)⟩
  · have he : ns = [] := by simpa using hp
    subst he
    have HO := Lib.hid hown0
    have HB := Lib.hid hB1
    clear hown0 hB1 hA
    go_enter Tryd.func22, Tryd.ntmps22
    go_wp2_with (at_builtin; refine wpList_append_emptyU _ rfl _ _ 34 rfl 5 i0 Tryd.underlying34 hi0 w.heap.size 0 0 0 c A rfl rfl (Nat.le_refl _) hnil ?_)
    go_ret
    exact ⟨_, _, rfl, HO.out, HB.out⟩
set_option maxRecDepth 100000 in
set_option maxHeartbeats 1000000 in
theorem lendU_any (A : Option Addr) (c : Nat) (ns : List UInt8) (w : World) (hA : Rs encU1 w A ns) (hl : ns.length ≤ 140737488351232) (hnil : A = none → c = 0) :
    Calls Tryd.prog 19 #[.slice A ns.length c] w fun e w' => ∃ g c2, e = .returned (.slice (some ⟨g, 0, none⟩) ns.length c2) ∧ OwnG 1 encU1 5 w' w.heap.size (.slice (some ⟨g, 0, none⟩) (ns.length + 3) c2) (ns ++ marksU) ∧ Below w.heap.size w w' := by
  obtain ⟨i0, hi0, hz0, hz1, hz2⟩ := info_parts infoU1
  have Hz0 := Lib.hid hz0
  have Hz1 := Lib.hid hz1
  have Hz2 := Lib.hid hz2
  have cc := copyU_any A c ns w hA (by omega) hnil
  have Cc := Lib.hid cc
  clear hz0 hz1 hz2 hA cc hnil
  go_enter Tryd.func19, Tryd.ntmps19
  go_wp2_with fail
  refine Cc.out.mono ?_
  rintro e w1 ⟨g, c2, rfl, hown, hB⟩
  have HO := Lib.hid hown
  have HB := Lib.hid hB
  have hx : ((w1.alloc (.cells (flatG encU1 marksU).toArray 5)).heap[w1.heap.size]? = some (.cells (flatG encU1 marksU).toArray 5 (0, 0))) := heap_alloc_new w1 _
  have Hx := Lib.hid (rs_news hx)
  have HO2 := Lib.hid (show (w1.alloc (.cells (flatG encU1 marksU).toArray 5)).ownsRow w.heap.size 5 1 (.slice (some ⟨g, 0, none⟩) ns.length c2) ns.length (flatG encU1 ns) from own_later hown fun b hb => Below.heap_alloc _ _ _ (own_lt hown hb).2)
  have HS := Lib.hid hB.size
  clear hown hB hx
  go_wp2_with (at_builtin; refine wpList_append_lies _ rfl _ _ 34 rfl w.heap.size 5 i0 (.int .u8 0) 1 1 Tryd.underlying34 hi0 Hz0.out Hz1.out Hz2.out rfl (by decide) (.slice (some ⟨g, 0, none⟩) ns.length c2) ns.length (flatG encU1 ns) rfl HO2.out ⟨w1.heap.size, 0, none⟩ 3 3 (flatG encU1 marksU) (by simp [go_sem]) rfl Hx.out (flatG_one encU1_ok _) (by decide) (by simp only [maxLen]; omega) (by omega) (by have := HS.out; simp; omega) (w1.heap.size + 1) (by simp) ?_; intro g2 cap w2 hown hgrow hat hlt; have hcap : (ns.length : Int) ≤ (cap : Int) := by have := own_cap hown; omega)
  go_ret
  refine ⟨g2, cap, rfl, ?_, (HB.out.alloc HS.out _).grown hgrow (by have := HS.out; simp; omega) (fun k e => (own_lt HO.out e).1)⟩
  unfold OwnG
  rw [flatG_append, List.length_append]
  exact hown
set_option maxRecDepth 100000 in
set_option maxHeartbeats 1000000 in
theorem keptU_any (base g c : Nat) (A : Option Addr) (d : Nat) (ns : List UInt8) (w : World) (hown : OwnG 1 encU1 5 w base (.slice (some ⟨g, 0, none⟩) (ns.length + 3) c) (ns ++ marksU)) (hA : Rs encU1 w A ns) (hn : ns.length ≤ 140737488351232) :
    Calls Tryd.prog 21 #[.slice (some ⟨g, 0, none⟩) ns.length c, .slice A ns.length d] w fun e w' => e = .returned (.bool true) ∧ w.grownBy w' (some g) := by
  have hl3 : (ns ++ marksU).length = ns.length + 3 := by simp
  have hcap : (ns.length : Int) + 3 ≤ (c : Int) := by
    have := own_cap hown
    omega
  have hNs : Rs encU1 w (some ⟨g, 0, none⟩) (ns ++ marksU) := OwnG.is encU1_ok hown
  have h1 := hNs.take
  have h2 := Rs.sub encU1_ok hNs
  rw [Nat.zero_add, Nat.mul_one] at h2
  have hO : w.ownsRow base 5 1 (.slice (some ⟨g, 0, none⟩) (ns.length + 3) c) (ns.length + 3) (flatG encU1 (ns ++ marksU)) := by
    have := hown
    unfold OwnG at this
    rw [hl3] at this
    exact this
  have c1 := sameU_yes _ _ c d ns w h1 hA (by omega)
  have C1 := Lib.hid c1
  have H2 := Lib.hid h2
  have HA := Lib.hid hA
  have HO := Lib.hid hO
  clear hown hNs h1 h2 hA hl3 hO c1
  go_enter Tryd.func21, Tryd.ntmps21
  go_wp2_with fail
  refine C1.out.mono ?_
  rintro e w1 ⟨rfl, hB1⟩
  have hB2 : Below w.heap.size w (w1.alloc (.cells (flatG encU1 marksU).toArray 5)) := hB1.alloc hB1.size _
  have c2 := sameU_yes (some ⟨g, ns.length, none⟩) (some ⟨w1.heap.size, 0, none⟩) (c - ns.length) 3 marksU _ (H2.out.later hB2) rs_new (by decide)
  have C2 := Lib.hid c2
  have HB2 := Lib.hid hB2
  clear hB1 hB2 c2
  go_wp2_with fail
  refine C2.out.mono ?_
  rintro e w2 ⟨rfl, hB3⟩
  have hB4 : Below w.heap.size w w2 := HB2.out.trans (hB3.mono (by have := HB2.out.size; omega))
  have hO2 : w2.ownsRow base 5 1 (.slice (some ⟨g, 0, none⟩) (ns.length + 3) c) (ns.length + 3) (flatG encU1 (ns ++ marksU)) := own_later HO.out fun b hb => hB4.block b (own_lt HO.out hb).2
  have c3 := spoilU_any base (some ⟨g, 0, none⟩) (ns.length + 3) c _ w2 hO2 (by omega)
  have C3 := Lib.hid c3
  have HB4 := Lib.hid hB4
  clear hB3 hB4 hO2 c3
  go_wp2_with fail
  refine C3.out.mono ?_
  rintro e w3 ⟨rfl, hg⟩
  have HG := Lib.hid hg
  clear hg
  go_wp2_with fail
  go_ret
  exact ⟨rfl, World.grownBy.trans ⟨HB4.out.os, HB4.out.tape, HB4.out.output, HB4.out.size, fun i hi _ => HB4.out.block i hi⟩ HG.out⟩
end Go.Proofs.YtoldhhaplndkcaaDoor
