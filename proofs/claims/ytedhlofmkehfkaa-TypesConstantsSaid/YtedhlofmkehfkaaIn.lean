/- Package addr's In; package types' whole. -/
import Derived.Test.YtedhlofmkehfkaaBytes
import Derived.Test.YtedhlofmkehfkaaClo2
namespace Go.Proofs.Ytedhlofmkehfkaa
open Go.RowKit
set_option linter.unusedVariables false
set_option linter.unusedSimpArgs false

/-! ### Bytes as strings -/
def isByte (x : Int) : Prop := 0 ≤ x ∧ x ≤ 255
theorem strBytes_eq {xs ys : List Int} (hx : ∀ x ∈ xs, isByte x) (hy : ∀ y ∈ ys, isByte y) : ((strOfNums xs).toList == (strOfNums ys).toList) = decide (xs = ys) := by
  rw [Bool.eq_iff_iff, beq_iff_eq, decide_eq_true_eq, ByteArray.toList_eq, ByteArray.toList_eq, strOfNums_data, strOfNums_data]
  constructor
  · intro h
    induction xs generalizing ys with
    | nil => cases ys with
      | nil => rfl
      | cons y ys => simp at h
    | cons x xs ih => cases ys with
      | nil => simp at h
      | cons y ys =>
        simp only [List.map_cons, List.cons.injEq] at h
        have h1 := hx x (by simp)
        have h2 := hy y (by simp)
        unfold isByte at h1 h2
        have e : x = y := by
          have := congrArg UInt8.toNat h.1
          simp only [UInt8.toNat_ofNat'] at this
          omega
        rw [e, ih (fun z hz => hx z (by simp [hz])) (fun z hz => hy z (by simp [hz])) h.2]
  · rintro rfl
    rfl
theorem bits_u8 (op : BinOp) (x y : Int) : isByte (Go.bits op .u8 x y) := by
  unfold Go.bits isByte IntKind.wrap
  simp only [IntKind.signed, IntKind.bits, Bool.false_and, Bool.false_eq_true, if_false]
  omega
theorem netL_bytes (bits : Int) : ∀ (xs : List Int) (i : Nat), ∀ x ∈ netL bits xs i, isByte x
  | [], _ => by simp [netL]
  | y :: ys, i => by
    intro x hx
    simp only [netL, List.mem_cons] at hx
    rcases hx with rfl | hx
    · exact bits_u8 _ _ _
    · exact netL_bytes bits ys (i + 1) x hx
/-- What In answers, of two addresses of one length, the bits in their bounds. -/
def inL (bits : Int) (xs ys : List Int) : Bool × Int := if netL bits ys 0 = ys then (decide (netL bits xs 0 = ys), 0) else (false, 62)
set_option maxHeartbeats 1000000 in
set_option maxRecDepth 100000 in
theorem in_same (b o n c b2 o2 c2 : Nat) (bits : Int) (xs ys : List Int) (w : World) (hl : xs.length = n) (hr : RdAt w b o (nums .u8 xs)) (hl2 : ys.length = n) (hr2 : RdAt w b2 o2 (nums .u8 ys)) (hx : ∀ y ∈ ys, isByte y) (hn : n = 4 ∨ n = 16) (hb0 : 0 ≤ bits) (hb1 : bits ≤ 8 * (n : Int)) :
    Calls Try.prog 90 #[.slice (some ⟨b, o, none⟩) n c, .slice (some ⟨b2, o2, none⟩) n c2, .int .i64 bits] w fun e w' =>
      e = .returned (.tuple #[.bool (inL bits xs ys).1, .int .i64 (inL bits xs ys).2]) ∧ Below w.heap.size w w' := by
  have hne : ((n : Int) != (n : Int)) = false := by simp
  have e1 := Lib.hid (net_any b o n c bits xs w hl hr hn hb0 hb1)
  go_enter Try.func90, Try.ntmps90
  go_wp2_with fail
  refine e1.out.mono ?_
  rintro e w1 ⟨g, rfl, hR, hg, hB⟩
  have hr2' := hr2.later hB
  have HR := Lib.hid hR
  have HB := Lib.hid hB
  clear hR hB
  go_wp2_with fail
  refine (net_any b2 o2 n c2 bits ys w1 hl2 hr2' hn hb0 hb1).mono ?_
  rintro e w2 ⟨g2, rfl, hR2, hg2, hB2⟩
  have hr2'' := hr2'.later hB2
  have hRx := HR.out.later hB2
  have hB3 := HB.out.trans (hB2.mono HB.out.size)
  have s1 := run_convert_bytes_arg (P := Try.prog) w2 88 5 Try.underlying88 Try.underlying5 g2 0 n n (netL bits ys 0) (by rw [netL_length]; exact hl2) (fun i hi => hR2.rd i _ (nums_get _ _ _ (by rw [netL_length]; omega))) 9 Try.underlying9
  have s2 := run_convert_bytes_arg (P := Try.prog) w2 88 5 Try.underlying88 Try.underlying5 b2 o2 n c2 ys hl2 (fun i hi => hr2'' i _ (nums_get _ _ _ (by omega))) 9 Try.underlying9
  have s3 := run_convert_bytes_arg (P := Try.prog) w2 88 5 Try.underlying88 Try.underlying5 g 0 n n (netL bits xs 0) (by rw [netL_length]; exact hl) (fun i hi => hRx.rd i _ (nums_get _ _ _ (by rw [netL_length]; omega))) 9 Try.underlying9
  have q1 := strBytes_eq (netL_bytes bits ys 0) hx
  have q2 := strBytes_eq (netL_bytes bits xs 0) (netL_bytes bits ys 0)
  clear hr hr2 hr2' hr2'' hRx hl hl2 hx
  by_cases hy : netL bits ys 0 = ys
  · have q3 : (!(strOfNums (netL bits ys 0)).toList == (strOfNums ys).toList) = false := by rw [q1]; simp [hy]
    have q4 : Hid ((inL bits xs ys) = ((strOfNums (netL bits xs 0)).toList == (strOfNums (netL bits ys 0)).toList, 0)) := by
      rw [q2]
      unfold inL
      rw [if_pos hy]
      congr 2
      rw [hy]
    clear q1 q2 hy
    go_wp2_with fail
    go_ret2
    exact ⟨by rw [q4.out]; rfl, hB3⟩
  · have q3 : (!(strOfNums (netL bits ys 0)).toList == (strOfNums ys).toList) = true := by rw [q1]; simp [hy]
    have q4 : Hid ((inL bits xs ys) = (false, 62)) := by
      unfold inL
      rw [if_neg hy]
      rfl
    clear q1 q2 hy
    go_wp2_with fail
    go_ret2
    exact ⟨by rw [q4.out]; rfl, hB3⟩
/-! ### whole -/
theorem encA_rd {w : World} {b : Nat} {n : Node} (h : nodeAt w ⟨b, 0, none⟩ = some n) (k : Nat) (hk : k ≤ 16) : RdAt w b 7 (nums .u8 (n.addr.list.take k)) := by
  intro j u hu
  have hi := nodeIn_of h
  have hj : j < 16 ∧ j < k := by
    have := (List.getElem?_eq_some_iff.1 hu).1
    simp [nums, A16.list] at this
    omega
  have := hi (7 + j) u ?_
  · rwa [add_plain, Nat.zero_add] at this
  · simp only [nums, List.getElem?_map, List.getElem?_take, if_pos hj.2] at hu
    obtain ⟨x, hx, rfl⟩ := Option.map_eq_some_iff.1 hu
    have e : (encL n)[7 + j]? = (n.addr.list.map (Value.int .u8))[j]? := by
      have hc : ∀ q, q < 16 → (encL n)[7 + q]? = (n.addr.list.map (Value.int .u8))[q]? := by
        intro q hq
        have h16 : q = 0 ∨ q = 1 ∨ q = 2 ∨ q = 3 ∨ q = 4 ∨ q = 5 ∨ q = 6 ∨ q = 7 ∨ q = 8 ∨ q = 9 ∨ q = 10 ∨ q = 11 ∨ q = 12 ∨ q = 13 ∨ q = 14 ∨ q = 15 := by omega
        rcases h16 with rfl | rfl | rfl | rfl | rfl | rfl | rfl | rfl | rfl | rfl | rfl | rfl | rfl | rfl | rfl | rfl <;> rfl
      exact hc j hj.1
    rw [e, List.getElem?_map, hx]
    rfl
/-- Are a node's bytes such as a node's bytes are? -/
def Node.bytes (n : Node) : Prop := ∀ x ∈ n.addr.list, isByte x
def wholeB (n : Node) : Bool := decide (netL n.bits (n.addr.list.take (widthI n).toNat) 0 = n.addr.list.take (widthI n).toNat)
theorem whole_res (n : Node) : (inL n.bits (n.addr.list.take (widthI n).toNat) (n.addr.list.take (widthI n).toNat)).2 = if wholeB n then 0 else 62 := by
  unfold inL wholeB
  split
  · rename_i h; simp [h]
  · rename_i h; simp [h]
set_option maxHeartbeats 1000000 in
set_option maxRecDepth 100000 in
theorem whole_16 (n : Node) (hn : n.bytes) (h0 : 0 ≤ n.bits) (hw : widthI n = 16) (hb1 : n.bits ≤ 128) (W : World) : Calls Try.prog 78 #[.agg (enc n)] W fun e w' => e = .returned (.bool (wholeB n)) ∧ Below W.heap.size W w' := by
  have hlen : (n.addr.list.take 16).length = 16 := rfl
  have hby : ∀ x ∈ n.addr.list.take 16, isByte x := fun x hx => hn x (List.mem_of_mem_take hx)
  have hres := whole_res n
  rw [hw] at hres
  change (inL n.bits (n.addr.list.take 16) (n.addr.list.take 16)).2 = _ at hres
  have Hb := Lib.hid hby
  have Hl := Lib.hid hlen
  have Hr := Lib.hid hres
  clear hlen hby hn hres
  go_enter Try.func78, Try.ntmps78
  go_wp2
  have h1 : (W.alloc (.cells (enc n) 40)).cell? ⟨W.heap.size, 23, none⟩ = some (.int .i64 n.bits) := World.cell?_alloc_new W _ _ 23
  have h2 := nodeAt_new W n 40
  have h3 : Below W.heap.size W (W.alloc (.cells (enc n) 40)) := (Below.refl _ _).alloc (Nat.le_refl _) _
  obtain ⟨b, hbb⟩ : ∃ b, W.heap.size = b := ⟨_, rfl⟩
  rw [hbb] at h1 h2 ⊢
  generalize W.alloc (.cells (enc n) 40) = V at h1 h2 h3 ⊢
  go_region_held3 (fun w' => w'.cell? ⟨b, 23, none⟩ = some (.int .i64 n.bits) ∧ nodeAt w' ⟨b, 0, none⟩ = some n ∧ Below W.heap.size W w') (first | exact ⟨h1, h2, h3.drew⟩ | exact held_later (by assumption) (by assumption) | assumption)
    (first | (go_at_call 83; refine (width_below _ _).mono ?_; rw [hw]; rintro e w2 ⟨rfl, hB2⟩) | (go_at_call 90; refine (in_same _ _ _ _ _ _ _ _ _ _ _ Hl.out (encA_rd (And.left (And.right (by assumption))) 16 (by omega)) Hl.out (encA_rd (And.left (And.right (by assumption))) 16 (by omega)) Hb.out (by omega) h0 hb1).mono ?_; rintro e w2 ⟨rfl, hB2⟩))
  rename_i hH
  have hBB := hH.2.2
  clear hH
  rw [Hr.out]
  cases hb : wholeB n
  all_goals
    go_wp2
    go_ret
    refine ⟨?_, ?_⟩
    · first | rfl | (rw [hb]; rfl)
    · first | exact hBB | (rw [← hbb]; exact hBB)
set_option maxHeartbeats 1000000 in
set_option maxRecDepth 100000 in
theorem whole_4 (n : Node) (hn : n.bytes) (h0 : 0 ≤ n.bits) (hw : widthI n = 4) (hb1 : n.bits ≤ 32) (W : World) : Calls Try.prog 78 #[.agg (enc n)] W fun e w' => e = .returned (.bool (wholeB n)) ∧ Below W.heap.size W w' := by
  have hlen : (n.addr.list.take 4).length = 4 := rfl
  have hby : ∀ x ∈ n.addr.list.take 4, isByte x := fun x hx => hn x (List.mem_of_mem_take hx)
  have hres := whole_res n
  rw [hw] at hres
  change (inL n.bits (n.addr.list.take 4) (n.addr.list.take 4)).2 = _ at hres
  have Hb := Lib.hid hby
  have Hl := Lib.hid hlen
  have Hr := Lib.hid hres
  clear hlen hby hn hres
  go_enter Try.func78, Try.ntmps78
  go_wp2
  have h1 : (W.alloc (.cells (enc n) 40)).cell? ⟨W.heap.size, 23, none⟩ = some (.int .i64 n.bits) := World.cell?_alloc_new W _ _ 23
  have h2 := nodeAt_new W n 40
  have h3 : Below W.heap.size W (W.alloc (.cells (enc n) 40)) := (Below.refl _ _).alloc (Nat.le_refl _) _
  obtain ⟨b, hbb⟩ : ∃ b, W.heap.size = b := ⟨_, rfl⟩
  rw [hbb] at h1 h2 ⊢
  generalize W.alloc (.cells (enc n) 40) = V at h1 h2 h3 ⊢
  go_region_held3 (fun w' => w'.cell? ⟨b, 23, none⟩ = some (.int .i64 n.bits) ∧ nodeAt w' ⟨b, 0, none⟩ = some n ∧ Below W.heap.size W w') (first | exact ⟨h1, h2, h3.drew⟩ | exact held_later (by assumption) (by assumption) | assumption)
    (first | (go_at_call 83; refine (width_below _ _).mono ?_; rw [hw]; rintro e w2 ⟨rfl, hB2⟩) | (go_at_call 90; refine (in_same _ _ _ _ _ _ _ _ _ _ _ Hl.out (encA_rd (And.left (And.right (by assumption))) 4 (by omega)) Hl.out (encA_rd (And.left (And.right (by assumption))) 4 (by omega)) Hb.out (by omega) h0 hb1).mono ?_; rintro e w2 ⟨rfl, hB2⟩))
  rename_i hH
  have hBB := hH.2.2
  clear hH
  rw [Hr.out]
  cases hb : wholeB n
  all_goals
    go_wp2
    go_ret
    refine ⟨?_, ?_⟩
    · first | rfl | (rw [hb]; rfl)
    · first | exact hBB | (rw [← hbb]; exact hBB)
theorem whole_any (n : Node) (hn : n.bytes) (h0 : 0 ≤ n.bits) (hb : n.bits ≤ 8 * widthI n) (W : World) : Calls Try.prog 78 #[.agg (enc n)] W fun e w' => e = .returned (.bool (wholeB n)) ∧ Below W.heap.size W w' := by
  rcases widthI_cases n with h | h
  · exact whole_16 n hn h0 h (by omega) W
  · exact whole_4 n hn h0 h (by omega) W
end Go.Proofs.Ytedhlofmkehfkaa
