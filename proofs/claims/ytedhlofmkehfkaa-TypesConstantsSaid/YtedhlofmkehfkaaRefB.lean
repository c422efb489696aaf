/- The document's own form of a node. -/
import Derived.Test.YtedhlofmkehfkaaRefA
namespace Go.Proofs.Ytedhlofmkehfkaa
open Go.RowKit Go.Shelf
set_option linter.unusedVariables false
set_option linter.unusedSimpArgs false

theorem setRow_alloc {w : World} {b : Nat} {c : Array Value} {o : Obj} (hb : b < w.heap.size) : (w.alloc o).setRow b c = (w.setRow b c).alloc o := by
  simp only [World.setRow, World.alloc]
  congr 1
  apply Array.ext_getElem?
  intro i
  simp only [Array.getElem?_modify, Array.getElem?_push, Array.size_modify]
  by_cases h : i = w.heap.size
  · subst h
    have : ¬ b = w.heap.size := by omega
    simp [this]
  · simp [h]
theorem run_storeA_first (w : World) (m : Node) (o : Obj) :
    (storeA (.pointer (some ⟨w.heap.size, 7, none⟩)) (.agg #[.int .u8 0, .int .u8 0, .int .u8 0, .int .u8 0, .int .u8 0, .int .u8 0, .int .u8 0, .int .u8 0, .int .u8 0, .int .u8 0, .int .u8 0, .int .u8 0, .int .u8 0, .int .u8 0, .int .u8 0, .int .u8 0])).run Try.prog ((w.alloc (.cells (enc m) 40)).alloc o) =
      .ok () ((w.alloc (.cells (enc { m with addr := A16.zero }) 40)).alloc o) := by
  have hb : ((w.alloc (.cells (enc m) 40)).alloc o).heap[w.heap.size]? = some (.cells (enc m) 40 (0, 0)) := by
    rw [Below.heap_alloc _ _ _ (by simp)]
    exact heap_alloc_new w _
  have h := run_storeA _ w.heap.size m hb
  rw [setRow_self _ _ _ _ _ hb, setRow_alloc (by simp), setRow_alloc_new] at h
  exact h
/-- Sixteen bytes, loaded: a name that the walk doesn't open. -/
def loadA (v : Value) : Sem Value := Instr.loadAt 38 v
@[go_sem ↓] theorem execOp_load_A (ρ : Operand → Value) (dst : Option Tmp) (x : Operand) (ty : TypeId) (pos : String) (after : Array Edge) (guard : Option (Nat × Bool)) :
    execOp ρ { dst, op := .load 38 x, type := ty, pos, after, guard } = (do pure (.value (← loadA (ρ x)))) := rfl
@[go_sem] theorem run_loadA (w : World) (b : Nat) (h : (nodeAt w ⟨b, 0, none⟩).isSome = true) : (loadA (.pointer (some ⟨b, 7, none⟩))).run Try.prog w = .ok (.agg (encA ((nodeAt w ⟨b, 0, none⟩).getD Node.zero).addr)) w := by
  obtain ⟨x, hx⟩ := Option.isSome_iff_exists.1 h
  have hn := nodeIn_of hx
  have hc : w.rangeAt b 7 (encA x.addr).toList := by
    intro j v hj
    have := hn (7 + j) v (by
      have hj2 : j < 16 := (List.getElem?_eq_some_iff.1 hj).1
      rw [← hj]
      match j, hj2 with
      | 0, _ => rfl
      | 1, _ => rfl
      | 2, _ => rfl
      | 3, _ => rfl
      | 4, _ => rfl
      | 5, _ => rfl
      | 6, _ => rfl
      | 7, _ => rfl
      | 8, _ => rfl
      | 9, _ => rfl
      | 10, _ => rfl
      | 11, _ => rfl
      | 12, _ => rfl
      | 13, _ => rfl
      | 14, _ => rfl
      | 15, _ => rfl)
    rwa [add_plain, Nat.zero_add] at this
  have := run_loadAt_mid (P := Try.prog) w b 7 38 (encA x.addr).toList _ hc Try.underlying38 rfl (by kernel_rfl)
  rw [hx]
  exact this
/-- The node without what its kind uses; is what it uses one that it may have? -/
def bareN (n : Node) : Node :=
  if n.kind = 1 then { n with n := 0 } else
  if n.kind = 12 then { n with n := 0 } else
  if n.kind = 3 then { n with of := 0, size := 0 } else
  if n.kind = 4 then { n with op := 0 } else
  if n.kind = 6 then { n with op := 0 } else
  if n.kind = 10 then { n with side := 0 } else
  if n.kind = 11 then { n with of := 0 } else
  if n.kind = 13 then { n with of := 0, n := 0 } else
  if n.kind = 14 then { n with of := 0, side := 0, addr := A16.zero } else
  if n.kind = 15 then { n with of := 0, side := 0, addr := A16.zero, bits := 0 } else
  if n.kind = 16 then { n with of := 0, side := 0, n := 0, m := 0 } else n
def mayB (n : Node) : Bool :=
  if n.kind = 3 then inR n.of 1 12 else
  if n.kind = 4 then inR n.op 1 10 else
  if n.kind = 6 then inR n.op 1 6 else
  if n.kind = 10 then inR n.side 1 2 else
  if n.kind = 11 then inR n.of 2 13 else
  if n.kind = 13 then inR n.of 2 3 else
  if n.kind = 14 then netB n else
  if n.kind = 15 then netB n else
  if n.kind = 16 then portB n else true
set_option maxHeartbeats 1000000 in
theorem form_eq (n : Node) : (decide (0 ≤ arI n.kind) && mayB n && decide (bareN n = { Node.zero with kind := n.kind })) = ((arityK n.kind).isSome && unusedB n.kind n) := by
  by_cases hk : ∃ a, arityK n.kind = some a
  · obtain ⟨a, ha⟩ := hk
    have hd : decide (0 ≤ arI n.kind) = true := decide_eq_true (by rw [arI_some ha]; omega)
    rw [hd, ha]
    have h16 : n.kind = 1 ∨ n.kind = 2 ∨ n.kind = 3 ∨ n.kind = 4 ∨ n.kind = 5 ∨ n.kind = 6 ∨ n.kind = 7 ∨ n.kind = 8 ∨ n.kind = 9 ∨ n.kind = 10 ∨ n.kind = 11 ∨ n.kind = 12 ∨ n.kind = 13 ∨ n.kind = 14 ∨ n.kind = 15 ∨ n.kind = 16 := by
      have := arityK_range ha
      omega
    rcases h16 with e | e | e | e | e | e | e | e | e | e | e | e | e | e | e | e <;> simp [mayB, bareN, unusedB, onlyB, e, Bool.and_comm]
  · have hn : arityK n.kind = none := by
      cases h : arityK n.kind with
      | none => rfl
      | some a => exact absurd ⟨a, h⟩ hk
    rw [arI_none hn, hn]
    rfl
theorem rest0_all {a : A16} (h : a.rest0 = true) : ∀ j, 4 ≤ j → j < 16 → a.list.getD j 0 = 0 := by
  simp only [A16.rest0, Bool.and_eq_true, decide_eq_true_eq] at h
  intro j h1 h2
  have h12 : j = 4 ∨ j = 5 ∨ j = 6 ∨ j = 7 ∨ j = 8 ∨ j = 9 ∨ j = 10 ∨ j = 11 ∨ j = 12 ∨ j = 13 ∨ j = 14 ∨ j = 15 := by omega
  rcases h12 with rfl | rfl | rfl | rfl | rfl | rfl | rfl | rfl | rfl | rfl | rfl | rfl <;> simp [A16.list, h]
theorem rest0_of {a : A16} (h : ∀ j, 4 ≤ j → j < 16 → a.list.getD j 0 = 0) : a.rest0 = true := by
  have g4 := h 4 (by omega) (by omega)
  have g5 := h 5 (by omega) (by omega)
  have g6 := h 6 (by omega) (by omega)
  have g7 := h 7 (by omega) (by omega)
  have g8 := h 8 (by omega) (by omega)
  have g9 := h 9 (by omega) (by omega)
  have g10 := h 10 (by omega) (by omega)
  have g11 := h 11 (by omega) (by omega)
  have g12 := h 12 (by omega) (by omega)
  have g13 := h 13 (by omega) (by omega)
  have g14 := h 14 (by omega) (by omega)
  have g15 := h 15 (by omega) (by omega)
  simp [A16.list] at g4 g5 g6 g7 g8 g9 g10 g11 g12 g13 g14 g15
  simp [A16.rest0, g4, g5, g6, g7, g8, g9, g10, g11, g12, g13, g14, g15]
theorem encA_at (a : A16) {i : Nat} (hi : i < 16) : (encA a)[i]? = some (.int .u8 (a.list.getD i 0)) := by
  rw [encA_list]
  have hl : i < a.list.length := hi
  simp [List.getD_eq_getElem?_getD, List.getElem?_eq_getElem hl]
set_option maxRecDepth 100000 in
theorem short_any (a : A16) (w : World) : Calls Try.prog 91 #[.agg (encA a)] w fun e w' => e = .returned (.bool a.rest0) ∧ w.alloc (.cells (encA a) 38) = w' := by
  obtain ⟨rb, hrb⟩ : ∃ x, a.rest0 = x := ⟨_, rfl⟩
  rw [hrb]
  have Hrb := Lib.hid hrb
  clear hrb
  have hrow : (w.alloc (.cells (encA a) 38)).heap[w.heap.size]? = some (.cells (encA a) 38 (0, 0)) := heap_alloc_new w _
  have Hrow := Lib.hid hrow
  clear hrow
  go_enter Try.func91, Try.ntmps91
  go_wp2_with fail
  go_loopw [3] (fun x wr => ∃ i : Nat, 4 ≤ i ∧ i ≤ 16 ∧ x = .int .i64 i ∧ (∀ j, 4 ≤ j → j < i → a.list.getD j 0 = 0) ∧ (w.alloc (.cells (encA a) 38)) = wr) (fun x _ => 16 - (intOf x).toNat)
  case atStart => exact ⟨4, by omega, by omega, rfl, fun j h1 h2 => by omega, rfl⟩
  case round =>
    obtain ⟨i, h4, hi, rfl, hz, rfl⟩ := hrel
    have Hz := Lib.hid hz
    clear hz
    by_cases hlt : i < 16
    · have hcell : (w.alloc (.cells (encA a) 38)).cell? ⟨w.heap.size, i, none⟩ = some (.int .u8 (a.list.getD i 0)) := by
        rw [cell_of_row _ _ _ _ _ _ Hrow.out]
        exact encA_at a hlt
      obtain ⟨x, hx⟩ : ∃ x, a.list.getD i 0 = x := ⟨_, rfl⟩
      rw [hx] at hcell
      have Hx := Lib.hid hx
      have i1 : (i : Int) < 16 := by omega
      have i2 : (0 : Int) ≤ (i : Int) := by omega
      clear hx
      by_cases hx0 : x = 0
      · subst hx0
        go_wp2_with fail
        go_round
        case rel =>
          refine ⟨i + 1, by omega, by omega, by go_num, fun j h1 h2 => ?_, by first | rfl | trivial⟩
          by_cases hji : j = i
          · subst hji; exact Hx.out
          · exact Hz.out j h1 (by omega)
        case measure => simp [intOf]; omega
      · have hx0' : (x != 0) = true := by simpa using hx0
        have hf : rb = false := by
          cases hb : rb with
          | false => rfl
          | true =>
            have h := Hrb.out
            rw [hb] at h
            have := rest0_all h i h4 hlt
            rw [Hx.out] at this
            exact absurd this hx0
        subst hf
        clear hx0
        go_wp2_with fail
        go_ret
        exact ⟨rfl, rfl⟩
    · have hie : i = 16 := by omega
      subst hie
      have ht : rb = true := by rw [← Hrb.out]; exact rest0_of Hz.out
      subst ht
      clear hlt
      go_wp2_with fail
      go_ret
      exact ⟨rfl, rfl⟩
theorem bare_results (tmps : Array Value) (W : World) (B : Nat) (x : Node) (c : Value) (hp : tmps.getD 2 undef = .pointer (some ⟨B, 0, none⟩)) (hc : tmps.getD 3 undef = c)
    (h : nodeAt W ⟨B, 0, none⟩ = some x) : (results Try.f84 tmps).run Try.prog W = .ok (.tuple #[.agg (enc x), c]) W := by
  have hl := run_loadVar_node W ⟨B, 0, none⟩ x h
  have hr : Try.f84.results = #[.cell 2 40, .tmp 3] := rfl
  have hp' : tmps[2]?.getD undef = .pointer (some ⟨B, 0, none⟩) := by simpa using hp
  have hc' : tmps[3]?.getD undef = c := by simpa using hc
  simp [results, hr, hp', hc', asAddr, hl]
@[go_sem] theorem run_storeNode_overB (w : World) (o : Obj) (y x : Node) : (storeNode (.pointer (some ⟨w.heap.size + 1, 0, none⟩)) (.agg (enc x))).run Try.prog ((w.alloc o).alloc (.cells (enc y) 40)) = .ok () ((w.alloc o).alloc (.cells (enc x) 40)) := by
  have := run_storeNode_over (w.alloc o) y x
  simpa using this
theorem run_storeA_first2 (w : World) (m : Node) (o o2 : Obj) :
    (storeA (.pointer (some ⟨w.heap.size, 7, none⟩)) (.agg #[.int .u8 0, .int .u8 0, .int .u8 0, .int .u8 0, .int .u8 0, .int .u8 0, .int .u8 0, .int .u8 0, .int .u8 0, .int .u8 0, .int .u8 0, .int .u8 0, .int .u8 0, .int .u8 0, .int .u8 0, .int .u8 0])).run Try.prog (((w.alloc (.cells (enc m) 40)).alloc o).alloc o2) =
      .ok () (((w.alloc (.cells (enc { m with addr := A16.zero }) 40)).alloc o).alloc o2) := by
  have hb : (((w.alloc (.cells (enc m) 40)).alloc o).alloc o2).heap[w.heap.size]? = some (.cells (enc m) 40 (0, 0)) := by
    rw [Below.heap_alloc _ _ _ (by simp; omega), Below.heap_alloc _ _ _ (by simp)]
    exact heap_alloc_new w _
  have h := run_storeA _ w.heap.size m hb
  rw [setRow_self _ _ _ _ _ hb, setRow_alloc (by simp; omega), setRow_alloc (by simp), setRow_alloc_new] at h
  exact h
@[go_sem] theorem run_storeNode_overB2 (w : World) (o o2 : Obj) (y x : Node) : (storeNode (.pointer (some ⟨w.heap.size + 1, 0, none⟩)) (.agg (enc x))).run Try.prog (((w.alloc o).alloc (.cells (enc y) 40)).alloc o2) = .ok () (((w.alloc o).alloc (.cells (enc x) 40)).alloc o2) := by
  have hb : (((w.alloc o).alloc (.cells (enc y) 40)).alloc o2).heap[w.heap.size + 1]? = some (.cells (enc y) 40 (0, 0)) := by
    rw [Below.heap_alloc _ _ _ (by simp)]
    have := heap_alloc_new (w.alloc o) (.cells (enc y) 40)
    simpa using this
  simp only [storeNode, Instr.storeAt, Instr.sureAddr, Sem.run_bind, Sem.run_pure, Result.andThen_ok]
  have := run_storeVar_row (P := Try.prog) _ (w.heap.size + 1) 40 40 (enc y) (enc x) hb nodeInfo (by rw [enc_size, enc_size]) (enc_oneCell x)
  rw [this, setRow_alloc (by simp)]
  have h2 := setRow_alloc_new (w.alloc o) (enc y) (enc x) 40
  simp only [World.size_alloc] at h2
  rw [h2]
@[go_sem] theorem nodeAt_first2 (w : World) (m : Node) (t : TypeId) (o o2 : Obj) : nodeAt (((w.alloc (.cells (enc m) t)).alloc o).alloc o2) ⟨w.heap.size, 0, none⟩ = some m := by
  rw [nodeAt_alloc _ (by simp; omega), nodeAt_alloc _ (by simp)]
  exact nodeAt_new w m t
theorem nodeAt_newB2 (w : World) (o o2 : Obj) (x : Node) : nodeAt (((w.alloc o).alloc (.cells (enc x) 40)).alloc o2) ⟨w.heap.size + 1, 0, none⟩ = some x := by
  rw [nodeAt_alloc _ (by simp)]
  have := nodeAt_new (w.alloc o) x 40
  simpa using this
theorem nodeAt_newB (w : World) (o : Obj) (x : Node) : nodeAt ((w.alloc o).alloc (.cells (enc x) 40)) ⟨w.heap.size + 1, 0, none⟩ = some x := by
  have := nodeAt_new (w.alloc o) x 40
  simpa using this
set_option maxRecDepth 100000 in
set_option maxHeartbeats 3200000 in
theorem bare_any (n : Node) (w : World) : Calls Try.prog 84 #[.agg (enc n)] w fun e w' => e = .returned (.tuple #[.agg (enc (bareN n)), .bool (mayB n)]) ∧ Below w.heap.size w w' := by
  have hB : ∀ a b : Node, Below w.heap.size w ((w.alloc (.cells (enc a) 40)).alloc (.cells (enc b) 40)) := fun a b => ((Below.refl _ w).alloc (Nat.le_refl _) _).alloc (by simp) _
  by_cases h16 : n.kind = 16
  · have hbn : bareN n = { n with of := 0, side := 0, n := 0, m := 0 } := by simp [bareN, h16]
    have hmb : mayB n = portB n := by simp [mayB, h16]
    have Hbn := Lib.hid hbn
    have Hmb := Lib.hid hmb
    have H16 := Lib.hid h16
    have k0 : (enc n)[0]? = some (.int .i64 16) := by rw [enc0, h16]
    clear hbn hmb
    have HK := H16
    by_cases o0 : n.of = 0
    · have hp : portB n = inR n.side 0 2 := by simp [portB, o0]
      have Hp := Lib.hid hp
      have o0' : (n.of == 0) = true := by simpa using o0
      clear hp o0
      go_enter Try.func84, Try.ntmps84
      go_wp2_with (first | (go_at_call 86; refine (between_any _ _ _ _).mono ?_; rintro e w2 ⟨rfl, rfl⟩) | (go_at_call 91; refine (short_any _ _).mono ?_; rintro e w2 ⟨rfl, rfl⟩))
      all_goals
        refine bodyPost_ret (bare_results _ _ _ _ _ rfl rfl (nodeAt_newB _ _ _)) rfl ⟨?_, hB _ _⟩
        rw [Hbn.out, Hmb.out, Hp.out, HK.out]
        rfl
    by_cases o4 : n.of = 4
    · have hp : portB n = inR n.side 0 2 := by simp [portB, o4]
      have Hp := Lib.hid hp
      have o0' : (n.of == 0) = false := by simpa using o0
      have o4' : (n.of == 4) = true := by simpa using o4
      clear hp o0 o4
      go_enter Try.func84, Try.ntmps84
      go_wp2_with (first | (go_at_call 86; refine (between_any _ _ _ _).mono ?_; rintro e w2 ⟨rfl, rfl⟩) | (go_at_call 91; refine (short_any _ _).mono ?_; rintro e w2 ⟨rfl, rfl⟩))
      all_goals
        refine bodyPost_ret (bare_results _ _ _ _ _ rfl rfl (nodeAt_newB _ _ _)) rfl ⟨?_, hB _ _⟩
        rw [Hbn.out, Hmb.out, Hp.out, HK.out]
        rfl
    by_cases o5 : n.of = 5
    · have hp : portB n = inR n.side 0 2 := by simp [portB, o5]
      have Hp := Lib.hid hp
      have o0' : (n.of == 0) = false := by simpa using o0
      have o4' : (n.of == 4) = false := by simpa using o4
      have o5' : (n.of == 5) = true := by simpa using o5
      clear hp o0 o4 o5
      go_enter Try.func84, Try.ntmps84
      go_wp2_with (first | (go_at_call 86; refine (between_any _ _ _ _).mono ?_; rintro e w2 ⟨rfl, rfl⟩) | (go_at_call 91; refine (short_any _ _).mono ?_; rintro e w2 ⟨rfl, rfl⟩))
      all_goals
        refine bodyPost_ret (bare_results _ _ _ _ _ rfl rfl (nodeAt_newB _ _ _)) rfl ⟨?_, hB _ _⟩
        rw [Hbn.out, Hmb.out, Hp.out, HK.out]
        rfl
    have hp : portB n = false := by simp [portB, o0, o4, o5]
    have Hp := Lib.hid hp
    have o0' : (n.of == 0) = false := by simpa using o0
    have o4' : (n.of == 4) = false := by simpa using o4
    have o5' : (n.of == 5) = false := by simpa using o5
    clear hp o0 o4 o5
    go_enter Try.func84, Try.ntmps84
    go_wp2_with (first | (go_at_call 86; refine (between_any _ _ _ _).mono ?_; rintro e w2 ⟨rfl, rfl⟩) | (go_at_call 91; refine (short_any _ _).mono ?_; rintro e w2 ⟨rfl, rfl⟩))
    all_goals
      refine bodyPost_ret (bare_results _ _ _ _ _ rfl rfl (nodeAt_newB _ _ _)) rfl ⟨?_, hB _ _⟩
      rw [Hbn.out, Hmb.out, Hp.out, HK.out]
      rfl
  by_cases h15 : n.kind = 15
  · have hbn : bareN n = { n with of := 0, side := 0, addr := A16.zero, bits := 0 } := by simp [bareN, h15]
    have hmb : mayB n = netB n := by simp [mayB, h15]
    have Hbn := Lib.hid hbn
    have Hmb := Lib.hid hmb
    have HK := Lib.hid h15
    have k0 : (enc n)[0]? = some (.int .i64 15) := by rw [enc0, h15]
    have hst := fun m o => run_storeA_first w m o
    clear hbn hmb
    by_cases o3 : n.of = 3
    · have hr : inR n.of 2 3 = true := by rw [o3]; rfl
      have hp : netB n = inR n.side 0 2 := by simp [netB, o3]
      have Hp := Lib.hid hp
      have o3' : (n.of == 3) = true := by simpa using o3
      clear hp o3
      cases hs : inR n.side 0 2 with
      | false =>
        rw [hs] at Hp
        go_enter Try.func84, Try.ntmps84
        go_wp2_with (first | (go_at_call 86; refine (between_any _ _ _ _).mono ?_; rintro e w2 ⟨rfl, rfl⟩) | (go_at_call 91; refine (short_any _ _).mono ?_; rintro e w2 ⟨rfl, rfl⟩))
        all_goals
          refine bodyPost_ret (bare_results _ _ _ _ _ rfl rfl (nodeAt_newB _ _ _)) rfl ⟨?_, hB _ _⟩
          rw [Hbn.out, Hmb.out, Hp.out, HK.out]
          rfl
      | true =>
        rw [hs] at Hp
        go_enter Try.func84, Try.ntmps84
        go_wp2_with (first | (go_at_call 86; refine (between_any _ _ _ _).mono ?_; rintro e w2 ⟨rfl, rfl⟩) | (go_at_call 91; refine (short_any _ _).mono ?_; rintro e w2 ⟨rfl, rfl⟩))
        all_goals
          refine bodyPost_ret (bare_results _ _ _ _ _ rfl rfl (nodeAt_newB _ _ _)) rfl ⟨?_, hB _ _⟩
          rw [Hbn.out, Hmb.out, Hp.out, HK.out]
          rfl
    have o3' : (n.of == 3) = false := by simpa using o3
    by_cases o2 : n.of = 2
    · have hr : inR n.of 2 3 = true := by rw [o2]; rfl
      have hp : netB n = (n.addr.rest0 && inR n.side 0 2) := by simp [netB, o2]
      have hn : nodeAt ((w.alloc (.cells (enc n) 40)).alloc (.cells (enc Node.zero) 40)) ⟨w.heap.size, 0, none⟩ = some n := by rw [nodeAt_alloc _ (by simp)]; exact nodeAt_new w n _
      clear o3 o2
      cases hs : inR n.side 0 2 with
      | false =>
        have Hp := Lib.hid (show netB n = false by rw [hp, hs]; simp)
        clear hp
        go_enter Try.func84, Try.ntmps84
        go_wp2_with (first | (go_at_call 86; refine (between_any _ _ _ _).mono ?_; rintro e w2 ⟨rfl, rfl⟩) | (go_at_call 91; refine (short_any _ _).mono ?_; rintro e w2 ⟨rfl, rfl⟩))
        all_goals
          refine bodyPost_ret (bare_results _ _ _ _ _ rfl rfl (nodeAt_newB _ _ _)) rfl ⟨?_, hB _ _⟩
          rw [Hbn.out, Hmb.out, Hp.out, HK.out]
          rfl
      | true =>
        have Hp := Lib.hid (show netB n = n.addr.rest0 by rw [hp, hs]; simp)
        clear hp
        have hst2 := fun m o o2 => run_storeA_first2 w m o o2
        go_enter Try.func84, Try.ntmps84
        go_wp2_with (first | (go_at_call 86; refine (between_any _ _ _ _).mono ?_; rintro e w2 ⟨rfl, rfl⟩) | (go_at_call 91; refine (short_any _ _).mono ?_; rintro e w2 ⟨rfl, rfl⟩))
        all_goals
          refine bodyPost_ret (bare_results _ _ _ _ _ rfl rfl (nodeAt_newB2 _ _ _ _)) rfl ⟨?_, (hB _ _).alloc (hB _ _).size _⟩
          rw [Hbn.out, Hmb.out, Hp.out, HK.out]
          rfl
    have hr : inR n.of 2 3 = false := by
      unfold inR
      by_cases h : 2 ≤ n.of <;> by_cases h2 : n.of ≤ 3 <;> simp [h, h2]
      omega
    have hp : netB n = false := by simp [netB, o2, o3]
    have Hp := Lib.hid hp
    clear hp o2 o3
    go_enter Try.func84, Try.ntmps84
    go_wp2_with (first | (go_at_call 86; refine (between_any _ _ _ _).mono ?_; rintro e w2 ⟨rfl, rfl⟩) | (go_at_call 91; refine (short_any _ _).mono ?_; rintro e w2 ⟨rfl, rfl⟩))
    all_goals
      refine bodyPost_ret (bare_results _ _ _ _ _ rfl rfl (nodeAt_newB _ _ _)) rfl ⟨?_, hB _ _⟩
      rw [Hbn.out, Hmb.out, Hp.out, HK.out]
      rfl
  by_cases h14 : n.kind = 14
  · have hbn : bareN n = { n with of := 0, side := 0, addr := A16.zero } := by simp [bareN, h14]
    have hmb : mayB n = netB n := by simp [mayB, h14]
    have Hbn := Lib.hid hbn
    have Hmb := Lib.hid hmb
    have HK := Lib.hid h14
    have k0 : (enc n)[0]? = some (.int .i64 14) := by rw [enc0, h14]
    have hst := fun m o => run_storeA_first w m o
    clear hbn hmb
    by_cases o3 : n.of = 3
    · have hr : inR n.of 2 3 = true := by rw [o3]; rfl
      have hp : netB n = inR n.side 0 2 := by simp [netB, o3]
      have Hp := Lib.hid hp
      have o3' : (n.of == 3) = true := by simpa using o3
      clear hp o3
      cases hs : inR n.side 0 2 with
      | false =>
        rw [hs] at Hp
        go_enter Try.func84, Try.ntmps84
        go_wp2_with (first | (go_at_call 86; refine (between_any _ _ _ _).mono ?_; rintro e w2 ⟨rfl, rfl⟩) | (go_at_call 91; refine (short_any _ _).mono ?_; rintro e w2 ⟨rfl, rfl⟩))
        all_goals
          refine bodyPost_ret (bare_results _ _ _ _ _ rfl rfl (nodeAt_newB _ _ _)) rfl ⟨?_, hB _ _⟩
          rw [Hbn.out, Hmb.out, Hp.out, HK.out]
          rfl
      | true =>
        rw [hs] at Hp
        go_enter Try.func84, Try.ntmps84
        go_wp2_with (first | (go_at_call 86; refine (between_any _ _ _ _).mono ?_; rintro e w2 ⟨rfl, rfl⟩) | (go_at_call 91; refine (short_any _ _).mono ?_; rintro e w2 ⟨rfl, rfl⟩))
        all_goals
          refine bodyPost_ret (bare_results _ _ _ _ _ rfl rfl (nodeAt_newB _ _ _)) rfl ⟨?_, hB _ _⟩
          rw [Hbn.out, Hmb.out, Hp.out, HK.out]
          rfl
    have o3' : (n.of == 3) = false := by simpa using o3
    by_cases o2 : n.of = 2
    · have hr : inR n.of 2 3 = true := by rw [o2]; rfl
      have hp : netB n = (n.addr.rest0 && inR n.side 0 2) := by simp [netB, o2]
      have hn : nodeAt ((w.alloc (.cells (enc n) 40)).alloc (.cells (enc Node.zero) 40)) ⟨w.heap.size, 0, none⟩ = some n := by rw [nodeAt_alloc _ (by simp)]; exact nodeAt_new w n _
      clear o3 o2
      cases hs : inR n.side 0 2 with
      | false =>
        have Hp := Lib.hid (show netB n = false by rw [hp, hs]; simp)
        clear hp
        go_enter Try.func84, Try.ntmps84
        go_wp2_with (first | (go_at_call 86; refine (between_any _ _ _ _).mono ?_; rintro e w2 ⟨rfl, rfl⟩) | (go_at_call 91; refine (short_any _ _).mono ?_; rintro e w2 ⟨rfl, rfl⟩))
        all_goals
          refine bodyPost_ret (bare_results _ _ _ _ _ rfl rfl (nodeAt_newB _ _ _)) rfl ⟨?_, hB _ _⟩
          rw [Hbn.out, Hmb.out, Hp.out, HK.out]
          rfl
      | true =>
        have Hp := Lib.hid (show netB n = n.addr.rest0 by rw [hp, hs]; simp)
        clear hp
        have hst2 := fun m o o2 => run_storeA_first2 w m o o2
        go_enter Try.func84, Try.ntmps84
        go_wp2_with (first | (go_at_call 86; refine (between_any _ _ _ _).mono ?_; rintro e w2 ⟨rfl, rfl⟩) | (go_at_call 91; refine (short_any _ _).mono ?_; rintro e w2 ⟨rfl, rfl⟩))
        all_goals
          refine bodyPost_ret (bare_results _ _ _ _ _ rfl rfl (nodeAt_newB2 _ _ _ _)) rfl ⟨?_, (hB _ _).alloc (hB _ _).size _⟩
          rw [Hbn.out, Hmb.out, Hp.out, HK.out]
          rfl
    have hr : inR n.of 2 3 = false := by
      unfold inR
      by_cases h : 2 ≤ n.of <;> by_cases h2 : n.of ≤ 3 <;> simp [h, h2]
      omega
    have hp : netB n = false := by simp [netB, o2, o3]
    have Hp := Lib.hid hp
    clear hp o2 o3
    go_enter Try.func84, Try.ntmps84
    go_wp2_with (first | (go_at_call 86; refine (between_any _ _ _ _).mono ?_; rintro e w2 ⟨rfl, rfl⟩) | (go_at_call 91; refine (short_any _ _).mono ?_; rintro e w2 ⟨rfl, rfl⟩))
    all_goals
      refine bodyPost_ret (bare_results _ _ _ _ _ rfl rfl (nodeAt_newB _ _ _)) rfl ⟨?_, hB _ _⟩
      rw [Hbn.out, Hmb.out, Hp.out, HK.out]
      rfl
  go_enter Try.func84, Try.ntmps84
  go_wp2_with (go_at_call 86; refine (between_any _ _ _ _).mono ?_; rintro e w2 ⟨rfl, rfl⟩)
  all_goals
    refine bodyPost_ret (bare_results _ _ _ _ _ rfl rfl (nodeAt_newB _ _ _)) rfl ⟨?_, hB _ _⟩
    simp only [beq_iff_eq, beq_eq_false_iff_ne, ne_eq] at *
    simp [bareN, mayB, *]
end Go.Proofs.Ytedhlofmkehfkaa
