/- strconv.FormatUint at base 16, of a uint16. -/
import Derived.Test.YtoldhhaplndkcaaDoorP6Q
namespace Go.Proofs.YtoldhhaplndkcaaDoor
open Go.RowKit Go.Shelf Go.Deep
set_option linter.unusedVariables false
set_option linter.unusedSimpArgs false

/-- What TrailingZeros64 reads at 16. -/
def Deb (w : World) : Prop := w.cell? ⟨7, 15, none⟩ = some (.int .u8 4)
theorem Deb.later {w W : World} (h : Deb w) (hB : Below w.heap.size w W) : Deb W := (hB.cell (p := ⟨7, 15, none⟩) (World.block_lt_of_cell? w _ h)).trans h
abbrev digs36 : ByteArray := ⟨#[48, 49, 50, 51, 52, 53, 54, 55, 56, 57, 97, 98, 99, 100, 101, 102, 103, 104, 105, 106, 107, 108, 109, 110, 111, 112, 113, 114, 115, 116, 117, 118, 119, 120, 121, 122]⟩
set_option maxRecDepth 10000 in
theorem ix36 {d : Nat} (h : d < 16) (W : World) : (Instr.index 9 (.string digs36) (.int .u64 (d : Int))).run Tryd.prog W = .ok (.int .u8 ((hch d).toNat : Int)) W := by
  have : d = 0 ∨ d = 1 ∨ d = 2 ∨ d = 3 ∨ d = 4 ∨ d = 5 ∨ d = 6 ∨ d = 7 ∨ d = 8 ∨ d = 9 ∨ d = 10 ∨ d = 11 ∨ d = 12 ∨ d = 13 ∨ d = 14 ∨ d = 15 := by omega
  rcases this with rfl | rfl | rfl | rfl | rfl | rfl | rfl | rfl | rfl | rfl | rfl | rfl | rfl | rfl | rfl | rfl <;> exact rfl
/-- The tail of an array of bytes, as a string. -/
theorem conv_tail {t : TypeId} {W : World} {b i c : Nat} {L : List Nat} (h : ArrAt t W b L) (l : List UInt8) (hl : L.drop i = l.map (·.toNat)) : (convert 34 9 (.slice (some ⟨b, i, none⟩) l.length c)).run Tryd.prog W = .ok (.string (bs l)) W := by
  refine run_convert_bytes_back (P := Tryd.prog) W 34 9 5 ⟨b, i, none⟩ c l Tryd.underlying34 Tryd.underlying5 Tryd.underlying9 fun j hj => ?_
  have h1 : L[i + j]? = some l[j].toNat := by
    rw [← List.getElem?_drop, hl, List.getElem?_map, List.getElem?_eq_getElem hj]
    rfl
  have h2 := h.cell h1
  rw [add_plain]
  exact h2
theorem wraps_u64 (n : Int) (h₀ : 0 ≤ n) (h₁ : n < 2 ^ 64) : IntKind.u64.wrap n = n := by rw [IntKind.wrap_u64]; omega
theorem u64_and15 {x : Int} (h₀ : 0 ≤ x) (h₁ : x < 18446744073709551616) : bits .and .u64 x 15 = x % 16 := bits_mask .u64 64 (by decide) wraps_u64 4 (by decide) x h₀ h₁
set_option maxRecDepth 100000 in
theorem pow_any (w : World) : Calls Tryd.prog 89 #[.int .i64 16] w fun e w' => e = .returned (.bool true) ∧ w' = w := by
  go_enter Tryd.func89, Tryd.ntmps89
  go_wp2_with fail
  go_ret
  exact ⟨rfl, rfl⟩
set_option maxRecDepth 100000 in
theorem tz64_any (w : World) (hd : Deb w) : Calls Tryd.prog 100 #[.int .u64 16] w fun e w' => e = .returned (.int .i64 4) ∧ w' = w := by
  have hc : w.cell? ⟨7, 15, none⟩ = some (.int .u8 4) := hd
  have hb : IntKind.u64.wrap (bits BinOp.and IntKind.u64 16 (IntKind.u64.wrap (-16)) * 285870213051353865) / 288230376151711744 = 15 := by decide +kernel
  go_enter Tryd.func100, Tryd.ntmps100
  go_wp2_with fail
  go_ret
  exact ⟨rfl, rfl⟩
set_option maxRecDepth 100000 in
theorem tz_any (w : World) (hd : Deb w) : Calls Tryd.prog 90 #[.int .u64 16] w fun e w' => e = .returned (.int .i64 4) ∧ w' = w := by
  have Ch := Lib.hid (tz64_any w hd)
  go_enter Tryd.func90, Tryd.ntmps90
  go_wp2_with fail
  refine Ch.out.mono ?_
  rintro e w1 ⟨rfl, rfl⟩
  go_wp2_with fail
  go_ret
  exact ⟨rfl, rfl⟩
set_option maxRecDepth 100000 in
set_option maxHeartbeats 3200000 in
theorem bits_any (x : Nat) (w : World) (hx : x < 65536) (hd : Deb w) : Calls Tryd.prog 73 #[.slice none 0 0, .int .u64 x, .int .i64 16, .bool false, .bool false] w fun e w' => e = .returned (.tuple #[.slice none 0 0, .string (bs (hexL x))]) ∧ Below w.heap.size w w' := by
  obtain ⟨R, hR⟩ : ∃ R, hexL x = R := ⟨_, rfl⟩
  rw [hR]
  go_enter Tryd.func73, Tryd.ntmps73
  go_wp2_with fail
  have Ctz := Lib.hid (tz_any (w.alloc (.cells (Array.replicate 65 (.int .u8 0)) 128)) (hd.later ((Below.refl _ w).alloc (Nat.le_refl _) _)))
  refine (pow_any _).mono ?_
  rintro e w1 ⟨rfl, rfl⟩
  go_wp2_with fail
  refine Ctz.out.mono ?_
  rintro e w1 ⟨rfl, rfl⟩
  have hA0 : ArrAt 128 (w.alloc (.cells (Array.replicate 65 (.int .u8 0)) 128)) w.heap.size (List.replicate 65 0) := ArrAt.new 128 w (List.replicate 65 0)
  have hB0 : Below w.heap.size w (w.alloc (.cells (Array.replicate 65 (.int .u8 0)) 128)) := (Below.refl _ w).alloc (Nat.le_refl _) _
  have HA0 := Lib.hid hA0
  have HB0 := Lib.hid hB0
  clear hA0 hB0
  go_wp2_with fail
  have HR := Lib.hid hR
  go_loopg [1, 13] 4 (fun g s1 s13 wr => ∃ (u i : Nat) (L : List Nat), i = 61 + g ∧ 1 ≤ g ∧ s1 = .int .u64 u ∧ s13 = .int .i64 i ∧ ((g = 4 ∧ u < 65536) ∨ (g = 3 ∧ u < 4096) ∨ (g = 2 ∧ u < 256) ∨ (g = 1 ∧ u < 16)) ∧ L.length = 65 ∧ Aside (∃ l : List UInt8, L.drop i = l.map (·.toNat) ∧ R = hexF g u ++ l) ∧ ArrAt 128 wr w.heap.size L ∧ Below w.heap.size w wr)
  case atStart => exact ⟨x, 65, List.replicate 65 0, rfl, by omega, rfl, rfl, .inl ⟨rfl, hx⟩, rfl, ⟨[], rfl, by rw [List.append_nil, ← hR]; rfl⟩, HA0.out, HB0.out⟩
  case round =>
    obtain ⟨u, i, L, hi, hg1, rfl, rfl, hu, hL, hQ, hA, hB⟩ := hrel
    have u0 : (0 : Int) ≤ (u : Int) := by omega
    have u9 : (u : Int) < 65536 := by omega
    have i0 : (62 : Int) ≤ (i : Int) := by omega
    have i9 : (i : Int) ≤ 65 := by omega
    have HB := Lib.hid hB
    have HQ := Lib.hid hQ.out
    have HA := Lib.hid hA
    have HL := Lib.hid hL
    clear hB hQ hA hL
    obtain ⟨j, rfl⟩ : ∃ j, i = j + 1 := ⟨i - 1, by omega⟩
    have ej : ((j + 1 : Nat) : Int) - 1 = (j : Int) := by omega
    have j0 : (0 : Int) ≤ (j : Int) := by omega
    have j9 : (j : Int) < 65 := by omega
    have hjl : j < L.length := by rw [HL.out]; omega
    have ix := fun (d : Nat) (h : d < 16) (v : Nat) (hv : (hch d).toNat = v) W => ix36 h W
    have hdrop : ∀ v : Nat, (L.set j v).drop j = v :: L.drop (j + 1) := fun v => by
      rw [List.drop_eq_getElem_cons (by rw [List.length_set]; exact hjl), List.getElem_set_self, List.drop_set_of_lt (by omega)]
    have HD := Lib.hid hdrop
    clear hdrop ix hR
    by_cases h16 : 16 ≤ u
    · have t1 : (u : Int) ≥ 16 := by omega
      obtain ⟨g, rfl⟩ : ∃ g', gk = g' + 1 := ⟨gk - 1, by omega⟩
      have na := u64_and15 (x := (u : Int)) (by omega) (by omega)
      obtain ⟨d, hd⟩ : ∃ d, u % 16 = d := ⟨_, rfl⟩
      obtain ⟨q, hq⟩ : ∃ q, u / 16 = q := ⟨_, rfl⟩
      have ed : (u : Int) % 16 = (d : Int) := by omega
      have eq : (u : Int) / 16 = (q : Int) := by omega
      have d9 : d < 16 := by omega
      obtain ⟨v, hv⟩ : ∃ v, (hch d).toNat = v := ⟨_, rfl⟩
      have ix := fun W => ix36 d9 W
      rw [hv] at ix
      have hA2 := HA.out.set (i := j) v hjl
      have hB2 := HB.out.setCell (p := ⟨w.heap.size, j, none⟩) (Nat.le_refl _) (.int .u8 (v : Int))
      obtain ⟨y, hy⟩ : ∃ y, L[j]? = some y := ⟨_, List.getElem?_eq_getElem hjl⟩
      have hc0 := HA.out.cell hy
      have hz := HA.out.frozen j
      have hq2 : ∃ l : List UInt8, (L.set j v).drop j = l.map (·.toNat) ∧ R = hexF g q ++ l := by
        obtain ⟨l, h1, h2⟩ := HQ.out
        refine ⟨hch d :: l, ?_, ?_⟩
        · rw [HD.out, h1, ← hv]
          rfl
        · rw [h2]
          show (if u < 16 then [hch u] else hexF g (u / 16) ++ [hch (u % 16)]) ++ l = _
          rw [if_neg (by omega), hq, hd, List.append_assoc]
          rfl
      have HF := Lib.hid (And.intro hA2 (And.intro hB2 hq2))
      have hu2 : ((g = 4 ∧ q < 65536) ∨ (g = 3 ∧ q < 4096) ∨ (g = 2 ∧ q < 256) ∨ (g = 1 ∧ q < 16)) := by omega
      have HU := Lib.hid hu2
      have HI := Lib.hid hi
      clear hA2 hB2 hq2 hv hd hq hu2 hu hx hy hjl hi
      go_wp2_with fail
      go_roundg g
      case measure => omega
      case rel => exact ⟨q, j, L.set j v, by have := HI.out; omega, by have := HU.out; omega, rfl, rfl, HU.out, by rw [List.length_set]; exact HL.out, HF.out.2.2, HF.out.1, HF.out.2.1⟩
    · have t1 : ¬ (u : Int) ≥ 16 := by omega
      have d9 : u < 16 := by omega
      obtain ⟨v, hv⟩ : ∃ v, (hch u).toNat = v := ⟨_, rfl⟩
      have ix := fun W => ix36 d9 W
      rw [hv] at ix
      have hA2 := HA.out.set (i := j) v hjl
      have hB2 := HB.out.setCell (p := ⟨w.heap.size, j, none⟩) (Nat.le_refl _) (.int .u8 (v : Int))
      obtain ⟨y, hy⟩ : ∃ y, L[j]? = some y := ⟨_, List.getElem?_eq_getElem hjl⟩
      have hc0 := HA.out.cell hy
      have hz := HA.out.frozen j
      obtain ⟨l, h1, h2⟩ := HQ.out
      obtain ⟨g, rfl⟩ : ∃ g', gk = g' + 1 := ⟨gk - 1, by omega⟩
      have h3 : (L.set j v).drop j = R.map (·.toNat) := by
        rw [HD.out, h1, h2, ← hv]
        show _ = List.map _ ((if u < 16 then [hch u] else hexF g (u / 16) ++ [hch (u % 16)]) ++ l)
        rw [if_pos d9]
        rfl
      have hl : j + R.length = 65 := by
        have := congrArg List.length h3
        rw [List.length_drop, List.length_set, HL.out, List.length_map] at this
        omega
      have hcv := fun c => conv_tail (c := c) hA2 R h3
      have j65 : (j : Int) ≤ 65 := by omega
      have el : (65 : Int) - (j : Int) = (R.length : Int) := by omega
      have en : 65 - j = R.length := by omega
      have HF := Lib.hid hB2
      clear hi hu hA2 hB2 hv hy hjl h1 h2 h3 hl hx
      go_wp2_with fail
      go_ret2
      exact ⟨rfl, HF.out⟩
set_option maxRecDepth 100000 in
theorem fmtI_any (x : Nat) (w : World) (hx : x < 65536) (hd : Deb w) : Calls Tryd.prog 52 #[.int .u64 x, .int .i64 16] w fun e w' => e = .returned (.string (bs (hexL x))) ∧ Below w.heap.size w w' := by
  have Ch := Lib.hid (bits_any x w hx hd)
  clear hx
  go_enter Tryd.func52, Tryd.ntmps52
  go_wp2_with fail
  with_reducible refine Ch.out.mono ?_
  rintro e w1 ⟨rfl, hB⟩
  have HB := Lib.hid hB
  clear hB
  go_wp2_with fail
  go_ret
  exact ⟨rfl, HB.out⟩
set_option maxRecDepth 100000 in
theorem fmt16_any (x : Nat) (w : World) (hx : x < 65536) (hd : Deb w) : Calls Tryd.prog 30 #[.int .u64 x, .int .i64 16] w fun e w' => e = .returned (.string (bs (hexL x))) ∧ Below w.heap.size w w' := by
  have Ch := Lib.hid (fmtI_any x w hx hd)
  clear hx
  go_enter Tryd.func30, Tryd.ntmps30
  go_wp2_with fail
  with_reducible refine Ch.out.mono ?_
  rintro e w1 ⟨rfl, hB⟩
  have HB := Lib.hid hB
  clear hB
  go_wp2_with fail
  go_ret
  exact ⟨rfl, HB.out⟩
end Go.Proofs.YtoldhhaplndkcaaDoor
