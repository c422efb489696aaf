/- TypesSpoilt: the walk. -/
import Derived.Test.YtedhlofmkehfkaaLawSpoil
import Derived.Test.YtedhlofmkehfkaaFirstW
namespace Go.Proofs.Ytedhlofmkehfkaa
open Go.RowKit Go.Shelf
set_option linter.unusedVariables false
set_option linter.unusedSimpArgs false

theorem own_set {w : World} {base g m c i : Nat} {ns : List Node} (h : OwnN w base (.slice (some ⟨g, 0, none⟩) m c) ns) (hi : i < ns.length) (x : Node) : Ns (w.setCells g (i * 24) (encL x)) (some ⟨g, 0, none⟩) (ns.set i x) := by
  obtain ⟨b, o, e, hn⟩ := h.is (by omega)
  cases e
  have hm : m = ns.length := by
    rcases h.2 with ⟨e, _⟩ | ⟨_, _, _, e, _⟩ <;> cases e
    rfl
  subst hm
  have ht : w.there g (i * 24) (encL x).length := (Room.of_own h).there hi
  have hs := World.rangeAt_setCells_same w g (i * 24) (encL x) ht
  intro hp
  refine ⟨g, 0, rfl, fun j hj => nodeAt_of fun k u hu => ?_⟩
  rw [List.length_set] at hj
  rw [add_plain, Nat.zero_add]
  have hk : k < 24 := by
    have := (List.getElem?_eq_some_iff.1 hu).1
    rwa [encL_length] at this
  by_cases hji : j = i
  · subst hji
    rw [show (ns.set j x).getD j Node.zero = x from by simp [List.getD_eq_getElem?_getD, hj]] at hu
    exact hs k u hu
  · rw [show (ns.set i x).getD j Node.zero = ns.getD j Node.zero from by simp [List.getD_eq_getElem?_getD, List.getElem?_set_ne (fun e => hji e.symm)]] at hu
    rw [World.cell?_setCells_out g _ _ _ _ (fun _ _ => by
      show j * 24 + k < i * 24 ∨ i * 24 + (encL x).length ≤ j * 24 + k
      rw [encL_length]
      omega)]
    have := nodeIn_of (hn j hj) k u hu
    rwa [add_plain, Nat.zero_add] at this
theorem below_setCells {w : World} {base g o : Nat} {vs : List Value} (hb : base ≤ g) (hs : base ≤ w.heap.size) : Below base w (w.setCells g o vs) := (Below.refl base w).grown (grown_setCells vs o w) hs fun k e => by cases e; exact hb
theorem NodesOk.set {a : List Node} (ha : NodesOk a) (i : Nat) {x : Node} (hx : x.bytes ∧ isU32 x.n) : NodesOk (a.set i x) :=
  ⟨fun n hn => (List.mem_or_eq_of_mem_set hn).elim (ha.bytes n) fun e => e ▸ hx.1, fun n hn => (List.mem_or_eq_of_mem_set hn).elim (ha.u32 n) fun e => e ▸ hx.2, by rw [List.length_set]; exact ha.len⟩
theorem spoil_ok {h l : Int} {n : Node} (hn : n.bytes ∧ isU32 n.n) : (spoilN h l n).bytes ∧ isU32 (spoilN h l n).n := by
  have hz : ∀ x ∈ ({ n.addr with b0 := 1 } : A16).list, isByte x := by
    intro x hx
    have hx : x ∈ 1 :: n.addr.list.drop 1 := hx
    rcases List.mem_cons.1 hx with rfl | hx
    · exact ⟨by decide, by decide⟩
    · exact hn.1 x (List.mem_of_mem_drop hx)
  unfold spoilN
  repeat' split
  all_goals first | exact hn | exact ⟨hz, hn.2⟩
@[go_sem] theorem set7 (x : Node) (v : Int) : (enc x).setIfInBounds 7 (.int .u8 v) = enc { x with addr := { x.addr with b0 := v } } := rfl
set_option maxRecDepth 100000 in
set_option maxHeartbeats 3200000 in
theorem spoilt_any (A : Option Addr) (c : Nat) (ns : List Node) (ai hi : Int) (w : World) (hA : Ns w A ns) (hok : NodesOk ns) (hnA : A = none → c = 0) (hcA : ns.length ≤ c) (hrA : c ≤ 1954687338211) :
    Calls Try.prog 9 #[.slice A ns.length c, .int .i64 ai, .int .i64 hi] w fun e w' => e = .returned (.bool true) ∧ Below w.heap.size w w' := by
  obtain ⟨x, hx⟩ : ∃ x, Go.bits .and .i64 ai 9223372036854775807 = x := ⟨_, rfl⟩
  have hx0 := low_nonneg ai
  have Hlow := low_any ai
  rw [hx] at hx0 Hlow
  have HL := Lib.hid Hlow
  obtain ⟨y, hy⟩ : ∃ x, Go.bits .and .i64 hi 9223372036854775807 = x := ⟨_, rfl⟩
  have hy0 := low_nonneg hi
  have Hlow2 := low_any hi
  rw [hy] at hy0 Hlow2
  have HL2 := Lib.hid Hlow2
  clear Hlow Hlow2 hx hy
  have HA := Lib.hid hA
  have Hok := Lib.hid hok
  have Hn := Lib.hid hnA
  have Hlen := Lib.hid hok.len
  clear hA hok hnA hcA hrA
  go_enter Try.func9, Try.ntmps9
  go_wp2_with fail
  refine (copy_any A c ns _ HA.out Hlen.out Hn.out).mono ?_
  rintro e w1 ⟨g, c1, rfl, hown, hB1⟩
  have HO := Lib.hid hown.is
  have HB1 := Lib.hid hB1
  clear hown hB1
  go_wp2_with fail
  have q1 := check_any (some ⟨g, 0, none⟩) c1 ns w1 HO.out Hok.out
  obtain ⟨r, hr⟩ : ∃ r, checkT ns = r := ⟨_, rfl⟩
  rw [hr] at q1
  obtain ⟨pa, ea⟩ := r
  have Hr := Lib.hid hr
  refine q1.mono ?_
  rintro e w2 ⟨rfl, hB2⟩
  have HB2 := Lib.hid (HB1.out.trans (hB2.mono HB1.out.size))
  clear q1 hr hB2 HO HB1
  by_cases h0 : ea = 0
  · subst h0
    have Hc := Lib.hid (show (checkT ns).2 = 0 by rw [Hr.out])
    have hsh := check_short Hc.out
    have hpos : 0 < ns.length := (tree_of (check_ok Hc.out).1).pos
    have hl0 : (1 : Int) ≤ (ns.length : Int) := by omega
    go_wp2_with fail
    refine (HL.out _).mono ?_
    rintro e w3 ⟨rfl, rfl⟩
    obtain ⟨i, hie⟩ : ∃ i : Nat, x % (ns.length : Int) = (i : Int) := ⟨(x % (ns.length : Int)).toNat, by have := Int.emod_nonneg x (b := (ns.length : Int)) (by omega); omega⟩
    have hil : i < ns.length := by have := Int.emod_lt_of_pos x (b := (ns.length : Int)) (by omega); omega
    go_upto_region 5 with fail
    rw [hie]
    obtain ⟨b, o, rfl, hn⟩ := (HA.out.later HB2.out) hpos
    have hni := hn i hil
    obtain ⟨n, hnn⟩ : ∃ n, ns.getD i Node.zero = n := ⟨_, rfl⟩
    rw [hnn] at hni
    have Hnn := Lib.hid hnn
    have hnok : n.bytes ∧ isU32 n.n := by
      rw [← hnn]
      exact ⟨Hok.out.bytes _ (getD_mem hil), Hok.out.u32 _ (getD_mem hil)⟩
    have Hnok := Lib.hid hnok
    have hi0 : (0 : Int) ≤ (i : Int) := by omega
    have hi1 : (i : Int) < (ns.length : Int) := by omega
    have Hil := Lib.hid hil
    have Hy0 := Lib.hid hy0
    clear hn hnn hnok hie hil
    go_upto_region 6 with fail
    have hx3 : (w2.alloc (.cells (enc n) 40)).heap[w2.heap.size]? = some (.cells (enc n) 40 (0, 0)) := heap_alloc_new w2 _
    have Hx3 := Lib.hid hx3
    clear hx3
    go_wp2_with fail
    refine (HL2.out _).mono ?_
    rintro e w4 ⟨rfl, rfl⟩
    obtain ⟨hh, hhe⟩ : ∃ h, y % 6 = h := ⟨_, rfl⟩
    have hhr : 0 ≤ hh ∧ hh < 6 := by omega
    go_upto_block 0 with fail
    rw [hhe]
    clear hhe
    go_cut [10] (fun s10 W => s10 = .pointer (some ⟨w2.heap.size, 0, none⟩) ∧ nodeAt W ⟨w2.heap.size, 0, none⟩ = some (spoilN hh y n) ∧ Below w2.heap.size w2 W)
    case first =>
      have hB5 : ∀ z, Below w2.heap.size w2 (w2.alloc (.cells (enc z) 40)) := fun z => (Below.refl _ w2).alloc (Nat.le_refl _) _
      rcases (by omega : hh = 0 ∨ hh = 1 ∨ hh = 2 ∨ hh = 3 ∨ hh = 4 ∨ hh = 5) with rfl | rfl | rfl | rfl | rfl | rfl
      · go_wp2_with fail
        refine (HL2.out _).mono ?_
        rintro e w5 ⟨rfl, rfl⟩
        go_wp2_with fail
        go_meet
        exact ⟨rfl, nodeAt_new _ _ _, hB5 _⟩
      · have hkr := sixteen ((runT_ok ns 0 [] [] (check_ok Hc.out).1).1 n (by rw [← Hnn.out]; exact getD_mem Hil.out))
        have k1 : 1 ≤ n.kind ∧ n.kind ≤ 16 := by omega
        obtain ⟨k1, k2⟩ := k1
        clear hkr
        go_wp2_with fail
        go_meet
        exact ⟨rfl, nodeAt_new _ _ _, hB5 _⟩
      · have hz : spoilN 2 y n = if n.kind = 4 ∨ n.kind = 6 then { n with op := 11 } else { n with op := 1 } := rfl
        have Hz := Lib.hid hz
        clear hz
        by_cases k4 : n.kind = 4
        · have hz : spoilN 2 y n = { n with op := 11 } := by rw [Hz.out, if_pos (.inl k4)]
          have HZ := Lib.hid hz
          clear hz
          go_wp2_with fail
          go_meet
          exact ⟨rfl, by rw [HZ.out]; first | exact nodeAt_new _ _ _ | (rw [nodeAt_new]; simp [*]), hB5 _⟩
        by_cases k6 : n.kind = 6
        · have hz : spoilN 2 y n = { n with op := 11 } := by rw [Hz.out, if_pos (.inr k6)]
          have HZ := Lib.hid hz
          clear hz k4
          go_wp2_with fail
          go_meet
          exact ⟨rfl, by rw [HZ.out]; first | exact nodeAt_new _ _ _ | (rw [nodeAt_new]; simp [*]), hB5 _⟩
        have hz : spoilN 2 y n = { n with op := 1 } := by rw [Hz.out, if_neg (by simp [k4, k6])]
        have HZ := Lib.hid hz
        have k4' : (n.kind == 4) = false := by simpa using k4
        have k6' : (n.kind == 6) = false := by simpa using k6
        clear hz k4 k6
        go_wp2_with fail
        go_meet
        exact ⟨rfl, by rw [HZ.out]; first | exact nodeAt_new _ _ _ | (rw [nodeAt_new]; simp [*]), hB5 _⟩
      · have hz : spoilN 3 y n = if n.kind ≠ 3 then { n with size := 1 } else { n with of := 13 } := rfl
        have Hz := Lib.hid hz
        clear hz
        by_cases k3 : n.kind = 3
        · have hz : spoilN 3 y n = { n with of := 13 } := by rw [Hz.out, if_neg (by simp [k3])]
          have HZ := Lib.hid hz
          clear hz
          go_wp2_with fail
          go_meet
          exact ⟨rfl, by rw [HZ.out]; first | exact nodeAt_new _ _ _ | (rw [nodeAt_new]; simp [*]), hB5 _⟩
        have hz : spoilN 3 y n = { n with size := 1 } := by rw [Hz.out, if_pos k3]
        have HZ := Lib.hid hz
        have k3' : (n.kind != 3) = true := by simpa using k3
        clear hz k3
        go_wp2_with fail
        go_meet
        exact ⟨rfl, by rw [HZ.out]; first | exact nodeAt_new _ _ _ | (rw [nodeAt_new]; simp [*]), hB5 _⟩
      · have hz : spoilN 4 y n = if n.kind ≠ 15 then { n with bits := -1 } else { n with side := 3 } := rfl
        have Hz := Lib.hid hz
        clear hz
        by_cases k3 : n.kind = 15
        · have hz : spoilN 4 y n = { n with side := 3 } := by rw [Hz.out, if_neg (by simp [k3])]
          have HZ := Lib.hid hz
          clear hz
          go_wp2_with fail
          go_meet
          exact ⟨rfl, by rw [HZ.out]; first | exact nodeAt_new _ _ _ | (rw [nodeAt_new]; simp [*]), hB5 _⟩
        have hz : spoilN 4 y n = { n with bits := -1 } := by rw [Hz.out, if_pos k3]
        have HZ := Lib.hid hz
        have k3' : (n.kind != 15) = true := by simpa using k3
        clear hz k3
        go_wp2_with fail
        go_meet
        exact ⟨rfl, by rw [HZ.out]; first | exact nodeAt_new _ _ _ | (rw [nodeAt_new]; simp [*]), hB5 _⟩
      · have hz : spoilN 5 y n = if n.kind ≠ 14 ∧ n.kind ≠ 15 then { n with addr := { n.addr with b0 := 1 } } else { n with of := 4 } := rfl
        have Hz := Lib.hid hz
        clear hz
        by_cases k4 : n.kind = 14
        · have hz : spoilN 5 y n = { n with of := 4 } := by rw [Hz.out, if_neg (by simp [k4])]
          have HZ := Lib.hid hz
          clear hz
          go_wp2_with fail
          go_meet
          exact ⟨rfl, by rw [HZ.out]; first | exact nodeAt_new _ _ _ | (rw [nodeAt_new]; simp [*]), hB5 _⟩
        by_cases k5 : n.kind = 15
        · have hz : spoilN 5 y n = { n with of := 4 } := by rw [Hz.out, if_neg (by simp [k5])]
          have HZ := Lib.hid hz
          clear hz k4
          go_wp2_with fail
          go_meet
          exact ⟨rfl, by rw [HZ.out]; first | exact nodeAt_new _ _ _ | (rw [nodeAt_new]; simp [*]), hB5 _⟩
        have hz : spoilN 5 y n = { n with addr := { n.addr with b0 := 1 } } := by rw [Hz.out, if_pos ⟨k4, k5⟩]
        have HZ := Lib.hid hz
        have k4' : (n.kind != 14) = true := by simpa using k4
        have k5' : (n.kind != 15) = true := by simpa using k5
        clear hz k4 k5
        go_wp2_with fail
        go_meet
        exact ⟨rfl, by rw [HZ.out]; first | exact nodeAt_new _ _ _ | (rw [nodeAt_new]; simp [*]), hB5 _⟩
    case rest =>
      obtain ⟨rfl, hn5, hB5⟩ := hcut
      have HB5 := Lib.hid (HB2.out.trans (hB5.mono HB2.out.size))
      have hlt5 : w2.heap.size < wc.heap.size := nodeAt_lt hn5
      have Hlt5 := Lib.hid hlt5
      have Hsp := Lib.hid (spoil_ok (h := hh) (l := y) Hnok.out)
      have Hck := Lib.hid (spoil_check (h := hh) Hc.out Hil.out Hy0.out)
      clear hB5 hlt5 hhr
      obtain ⟨sp, hsp⟩ : ∃ z, spoilN hh y n = z := ⟨_, rfl⟩
      have hck := Hck.out
      have hsok := Hsp.out
      rw [Hnn.out, hsp] at hck
      rw [hsp] at hsok hn5
      have HSok := Lib.hid hsok
      have HCk := Lib.hid hck
      clear hck hsok hsp
      go_wp2_with fail
      refine (copy_any (some ⟨b, o, none⟩) c ns _ (HA.out.later HB5.out) Hlen.out Hn.out).mono ?_
      rintro e w6 ⟨g6, c6, rfl, hown6, hB6⟩
      have hn6 := nodeAt_later hB6 hn5
      have ht6 := (Room.of_own hown6).there Hil.out
      have HO6 := Lib.hid hown6
      have HB6 := Lib.hid hB6
      clear hown6 hB6 hn5
      go_wp2_with fail
      have c7 := check_any (some ⟨g6, 0, none⟩) c6 (ns.set i sp) (w6.setCells g6 (i * 24) (encL sp)) (own_set HO6.out Hil.out sp) (Hok.out.set i HSok.out)
      rw [HCk.out, List.length_set] at c7
      refine c7.mono ?_
      rintro e w7 ⟨rfl, hB7⟩
      have hB8 : Below wc.heap.size wc (w6.setCells g6 (i * 24) (encL sp)) := HB6.out.trans (below_setCells (own_lt HO6.out rfl).1 HB6.out.size)
      have HB7 := Lib.hid (HB5.out.trans ((hB8.trans (hB7.mono hB8.size)).mono HB5.out.size))
      clear c7 hB7 hB8
      go_wp2_with fail
      refine (awake_any _).mono ?_
      rintro e w9 ⟨rfl, hb9⟩
      have HBj := Lib.hid (HB7.out.trans (hb9.mono HB7.out.size))
      clear hb9
      go_wp2_with fail
      go_ret
      exact ⟨rfl, HBj.out⟩
  · have h0' : (ea != 0) = true := by simpa using h0
    clear h0
    go_wp2_with fail
    refine (awake_any _).mono ?_
    rintro e w3 ⟨rfl, hb⟩
    have HB3 := Lib.hid (HB2.out.trans (hb.mono HB2.out.size))
    clear hb
    go_wp2_with fail
    go_ret
    exact ⟨rfl, HB3.out⟩
end Go.Proofs.Ytedhlofmkehfkaa
