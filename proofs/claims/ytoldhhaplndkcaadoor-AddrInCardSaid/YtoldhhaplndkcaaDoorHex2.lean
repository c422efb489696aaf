/- The document's Hex of two bytes; a group's short text. -/
import Derived.Test.YtoldhhaplndkcaaDoorPr6L
import Derived.Laws.BitsLemmas
import Derived.StillTailTactics
import Derived.Outline
namespace Go.Proofs.YtoldhhaplndkcaaDoor
open Go.RowKit Go.Shelf Go.Deep
set_option linter.unusedVariables false
set_option linter.unusedSimpArgs false

abbrev digs16 : ByteArray := ⟨#[48, 49, 50, 51, 52, 53, 54, 55, 56, 57, 97, 98, 99, 100, 101, 102]⟩
set_option maxRecDepth 10000 in
theorem ix16 {d : Nat} (h : d < 16) (W : World) : (Instr.index 9 (.string digs16) (.int .u8 (d : Int))).run Tryd.prog W = .ok (.int .u8 ((hch d).toNat : Int)) W := by
  have : d = 0 ∨ d = 1 ∨ d = 2 ∨ d = 3 ∨ d = 4 ∨ d = 5 ∨ d = 6 ∨ d = 7 ∨ d = 8 ∨ d = 9 ∨ d = 10 ∨ d = 11 ∨ d = 12 ∨ d = 13 ∨ d = 14 ∨ d = 15 := by omega
  rcases this with rfl | rfl | rfl | rfl | rfl | rfl | rfl | rfl | rfl | rfl | rfl | rfl | rfl | rfl | rfl | rfl <;> exact rfl
/-- Two digits a byte. -/
def hexs (l : List Nat) : List UInt8 := l.flatMap fun x => [hch (x / 16), hch (x % 16)]
theorem hexs_snoc (l : List Nat) (x : Nat) : hexs (l ++ [x]) = hexs l ++ [hch (x / 16), hch (x % 16)] := by
  unfold hexs
  rw [List.flatMap_append]
  simp
theorem hexs_len (l : List Nat) : (hexs l).length = 2 * l.length := by
  induction l with
  | nil => rfl
  | cons x l ih =>
    show ([hch (x / 16), hch (x % 16)] ++ hexs l).length = _
    rw [List.length_append, ih]
    simp
    omega
set_option maxRecDepth 100000 in
set_option maxHeartbeats 3200000 in
theorem rhex_any (g c : Nat) (L : List Nat) (w : World) (hL : ∀ x ∈ L, x < 256) (hl : L.length ≤ 1000) (hc : ∀ (k x : Nat), L[k]? = some x → w.cell? ⟨g, k, none⟩ = some (.int .u8 (x : Int))) : Calls Tryd.prog 60 #[.slice (some ⟨g, 0, none⟩) L.length c] w fun e w' => e = .returned (.string (bs (hexs L))) ∧ Below w.heap.size w w' := by
  obtain ⟨i0, hi, hz0, hz1, hz2⟩ := info_parts infoByte'
  have Hi := Lib.hid hi
  have Hz0 := Lib.hid hz0
  have Hz1 := Lib.hid hz1
  have Hz2 := Lib.hid hz2
  have HL := Lib.hid hL
  have HC := Lib.hid hc
  clear hi hz0 hz1 hz2 hL hc
  go_enter Tryd.func60, Tryd.ntmps60
  go_wp2_with fail
  go_loopg [3, 4] L.length (fun g' s3 s4 wr => ∃ (k n cp : Nat) (A : Option Addr), k + g' = L.length ∧ n = 2 * k ∧ s3 = .slice A n cp ∧ s4 = .int .i64 k ∧ wr.ownsRow w.heap.size 5 1 (.slice A n cp) n (Lib.byteCells (hexs (L.take k))) ∧ Below w.heap.size w wr)
  case atStart => exact ⟨0, 0, 0, none, by omega, rfl, rfl, rfl, own_nil _ _ _ _, Below.refl _ _⟩
  case round =>
    obtain ⟨k, n, cp, A, hk, hn, rfl, rfl, hO, hB⟩ := hrel
    have k0 : (0 : Int) ≤ (k : Int) := by omega
    have HB := Lib.hid hB
    have HS := Lib.hid hB.size
    have HO := Lib.hid hO
    have Hn := Lib.hid hn
    have n9 : n ≤ 2000 := by omega
    clear hB hO hn
    cases gk with
    | zero =>
      have k1 : ¬ (k : Int) < (L.length : Int) := by omega
      have hcv := conv_own HO.out (by rw [hexs_len, List.length_take, Hn.out]; omega)
      rw [List.take_of_length_le (by omega)] at hcv
      go_wp2_with fail
      go_ret
      exact ⟨rfl, HB.out⟩
    | succ g' =>
      have k1 : (k : Int) < (L.length : Int) := by omega
      have hkl : k < L.length := by omega
      obtain ⟨x, hx⟩ : ∃ x, L[k]? = some x := ⟨_, List.getElem?_eq_getElem hkl⟩
      have hx9 := HL.out x (List.mem_of_getElem? hx)
      have hb := HC.out k x hx
      have hcell := (HB.out.cell (p := ⟨g, k, none⟩) (World.block_lt_of_cell? w _ hb)).trans hb
      have hsn : hexs (L.take (k + 1)) = hexs (L.take k) ++ [hch (x / 16), hch (x % 16)] := by rw [take_succ_getD hx, hexs_snoc]
      have HSn := Lib.hid hsn
      obtain ⟨a, ha⟩ : ∃ a, x / 16 = a := ⟨_, rfl⟩
      obtain ⟨b, hbb⟩ : ∃ a, x % 16 = a := ⟨_, rfl⟩
      have ia := fun W => ix16 (d := a) (by omega) W
      have ib := fun W => ix16 (d := b) (by omega) W
      have na := u8_and15 (x := (x : Int)) (by omega) (by omega)
      have ea : (x : Int) / 16 = (a : Int) := by omega
      have eb : (x : Int) % 16 = (b : Int) := by omega
      have x0 : (0 : Int) ≤ (x : Int) := by omega
      have x9 : (x : Int) ≤ 255 := by omega
      have HAB := Lib.hid (And.intro ha hbb)
      clear hsn ha hbb hb hx hx9 hkl
      go_upto_block 1 with fail
      go_cut [3] (fun s3 W => ∃ (cp2 : Nat) (A2 : Option Addr), s3 = .slice A2 (n + 2) cp2 ∧ W.ownsRow w.heap.size 5 1 (.slice A2 (n + 2) cp2) (n + 2) (Lib.byteCells (hexs (L.take (k + 1)))) ∧ Below w.heap.size w W)
      case first =>
        go_wp2_with fail
        go_region_law (refine step_append_lies _ (by rfl) _ _ _ (by rfl) w.heap.size 5 i0 _ 1 1 Tryd.underlying34 Hi.out Hz0.out Hz1.out Hz2.out rfl (by omega) (.slice A n cp) n (Lib.byteCells (hexs (L.take k))) (by rfl) ((HO.out.alloc _).drew) ⟨wr.heap.size, 0, none⟩ 2 2 [.int .u8 ((hch a).toNat : Int), .int .u8 ((hch b).toNat : Int)] (by rfl) (by rfl) (World.news_of_block (cs := #[.int .u8 ((hch a).toNat : Int), .int .u8 ((hch b).toNat : Int)]) (t := 5) (fr := (0, 0)) (heap_alloc_new _ _)) (by intro u hu; simp at hu; rcases hu with rfl | rfl <;> rfl) (by omega) (by simp only [maxLen]; omega) (by omega) (by have := HS.out; simp; omega) (wr.heap.size + 1) (by simp) ?_; intro gg cap w6 hown6 hgrow hat hlt6)
        all_goals
          have hb6 := ((HB.out.alloc HS.out _).drew).grown hgrow (by have := HS.out; simp; omega) (fun j e => (HO.out.lt j e).1)
          have hown7 : w6.ownsRow w.heap.size 5 1 (.slice (some ⟨gg, 0, none⟩) (n + 2) cap) (n + 2) (Lib.byteCells (hexs (L.take (k + 1)))) := by
            rw [HSn.out, HAB.out.1, HAB.out.2, Lib.byteCells_append]
            exact hown6
          have HF := Lib.hid (And.intro hown7 hb6)
          clear hown6 hgrow hat hlt6 hb6 hown7
          go_wp2_with fail
          go_meet
          exact ⟨cap, _, rfl, HF.out.1, HF.out.2⟩
      case rest =>
        obtain ⟨cp2, A2, rfl, hO2, hB2⟩ := hcut
        have HO2 := Lib.hid hO2
        have HB2 := Lib.hid hB2
        clear hO2 hB2
        go_wp2_with fail
        go_roundg g'
        case measure => omega
        case rel => exact ⟨k + 1, n + 2, cp2, A2, by omega, by have := Hn.out; omega, rfl, by go_num, HO2.out, HB2.out⟩
/-- Without the noughts ahead, but the last. -/
def stripL : List UInt8 → List UInt8
  | [] => []
  | [b] => [b]
  | b :: c :: r => if b = 48 then stripL (c :: r) else b :: c :: r
theorem hch0 : hch 0 = 48 := rfl
theorem hch_ne {d : Nat} (h : d < 16) (h0 : d ≠ 0) : hch d ≠ 48 := by
  have h1 : ∀ x : Fin 16, x.val ≠ 0 → hch x.val ≠ 48 := by decide
  exact h1 ⟨d, h⟩ h0
theorem strip_keep {b : UInt8} (r : List UInt8) (h : b ≠ 48) : stripL (b :: r) = b :: r := by
  cases r with
  | nil => rfl
  | cons c r => show (if b = 48 then _ else _) = _; rw [if_neg h]
theorem strip_drop (c : UInt8) (r : List UInt8) : stripL (48 :: c :: r) = stripL (c :: r) := by
  show (if (48 : UInt8) = 48 then _ else _) = _
  rw [if_pos rfl]
theorem strip_hex {g : Nat} (h : g < 65536) : stripL (hexs [g / 256, g % 256]) = hexL g := by
  have e : hexs [g / 256, g % 256] = [hch (g / 4096), hch (g / 256 % 16), hch (g / 16 % 16), hch (g % 16)] := by
    show [hch (g / 256 / 16), hch (g / 256 % 16), hch (g % 256 / 16), hch (g % 256 % 16)] = _
    rw [show g / 256 / 16 = g / 4096 from by omega, show g % 256 / 16 = g / 16 % 16 from by omega, show g % 256 % 16 = g % 16 from by omega]
  rw [e]
  unfold hexL hexF
  by_cases h1 : g < 16
  · rw [if_pos h1, show g / 4096 = 0 from by omega, show g / 256 % 16 = 0 from by omega, show g / 16 % 16 = 0 from by omega, show g % 16 = g from by omega, hch0, strip_drop, strip_drop, strip_drop]
    rfl
  · rw [if_neg h1]
    unfold hexF
    by_cases h2 : g / 16 < 16
    · rw [if_pos h2, show g / 4096 = 0 from by omega, show g / 256 % 16 = 0 from by omega, show g / 16 % 16 = g / 16 from by omega, hch0, strip_drop, strip_drop, strip_keep _ (hch_ne h2 (by omega))]
      rfl
    · rw [if_neg h2]
      unfold hexF
      by_cases h3 : g / 16 / 16 < 16
      · rw [if_pos h3, show g / 4096 = 0 from by omega, show g / 256 % 16 = g / 16 / 16 from by omega, hch0, strip_drop, strip_keep _ (hch_ne h3 (by omega))]
        rfl
      · rw [if_neg h3]
        unfold hexF
        rw [if_pos (by omega), strip_keep _ (hch_ne (by omega) (by omega)), show g / 16 / 16 / 16 = g / 4096 from by omega, show g / 16 / 16 % 16 = g / 256 % 16 from by omega]
        rfl
end Go.Proofs.YtoldhhaplndkcaaDoor
