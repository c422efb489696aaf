/- Texts and rows of them: small lemmas. -/
import Derived.Test.YtoldhhaplndkcaaDoorRowG
import Derived.Test.YtoldhhaplndkcaaDoorDigs
import Derived.Deep.RegionHeld3
import Derived.WalkSpells
import Derived.Deep.QuietTactic
import Derived.BigQuiet
import Derived.Deep.DeepCutAuto
import Derived.Deep.CutBlock
import Derived.WalkLawsBesides
import Derived.Laws.BytesArg
import Derived.Deep.LoopGhost
namespace Go.Proofs.YtoldhhaplndkcaaDoor
open Go.RowKit Go.Shelf
set_option linter.unusedVariables false
set_option linter.unusedSimpArgs false

theorem drop_byte {s : ByteArray} {i : Nat} (h : i < s.size) : s.data.toList.drop i = s[i] :: s.data.toList.drop (i + 1) := by
  rw [List.drop_eq_getElem_cons (by simpa using h)]
  rfl
theorem extract_list (s : ByteArray) (a b : Nat) : (s.extract a b).data.toList = (s.data.toList.drop a).take (b - a) := by
  rw [Lib.extract_data]
theorem take_byte {s : ByteArray} {i : Nat} (h : i < s.size) : s.data.toList.take (i + 1) = s.data.toList.take i ++ [s[i]] := by
  rw [List.take_succ_eq_append_getElem (by simpa using h)]
  rfl
theorem get_byte {s : ByteArray} {i : Nat} (h : i < s.size) : s.data.toList[i]? = some s[i] := by
  rw [List.getElem?_eq_getElem (by simpa using h)]
  rfl
theorem bs_eq_iff (l : List UInt8) (s : ByteArray) : (bs l = s) ↔ l = s.data.toList := by
  constructor
  · rintro rfl
    rw [bs_list]
  · rintro rfl
    exact bs_of s
theorem strCells_bs (l : List UInt8) : Lib.strCells (bs l) = Lib.byteCells l := by
  unfold Lib.strCells Lib.byteCells
  rw [bs_list]
theorem infoByte' : (Tryd.prog.info? 5).map (fun i => (i.zero, i.size, i.bytes)) = some (some (.int .u8 0), 1, 1) := by kernel_rfl
theorem infoStr : (Tryd.prog.info? 9).map (fun i => (i.zero, i.size, i.bytes)) = some (some (.string ⟨#[]⟩), 1, 16) := by kernel_rfl
abbrev encB (x : ByteArray) : List Value := [.string x]
theorem encB_ok : EncOk 1 encB := ⟨fun _ => rfl, fun a v hv => by
  simp only [encB, List.mem_singleton] at hv
  subst hv
  rfl, by decide⟩
abbrev ls (L : List ByteArray) : List (List UInt8) := L.map fun b => b.data.toList
variable {α : Type} {k : Nat} {enc : α → List Value}
theorem own_rs (E : EncOk k enc) {t : TypeId} {w : World} {base c : Nat} {A : Option Addr} {xs : List α} (h : OwnG k enc t w base (.slice A xs.length c) xs) : Rs enc w A xs := by
  obtain ⟨A', c', e, hr⟩ := OwnG.rs E h
  cases e
  exact hr
theorem own_apart {t : TypeId} {w w5 : World} {base : Nat} {v : Value} {xs : List α} {row : Option Nat} (h : OwnG k enc t w base v xs) (hG : w.grownBy w5 row) (hne : ∀ b, v.ownBlock = some b → row = some b → False) : OwnG k enc t w5 base v xs :=
  own_later h fun b e => hG.block b (own_lt h e).2 (fun e2 => hne b e e2.symm)
/-- What an owned row of bytes is as a string. -/
theorem conv_own {W : World} {base n cap : Nat} {A : Option Addr} {l : List UInt8} (h : W.ownsRow base 5 1 (.slice A n cap) n (Lib.byteCells l)) (hn : n = l.length) : (convert 34 9 (.slice A n cap)).run Tryd.prog W = .ok (.string (bs l)) W := by
  rcases h.2 with ⟨h1, h0⟩ | ⟨g, c, cur, h1, _⟩
  · cases h1
    have : l = [] := List.length_eq_zero_iff.1 hn.symm
    subst this
    have h := run_convert_bytes_nil (P := Tryd.prog) W 34 5 Tryd.underlying34 Tryd.underlying5 0 0 9 Tryd.underlying9
    exact h
  · cases h1
    subst hn
    refine run_convert_bytes_back (P := Tryd.prog) W 34 9 5 ⟨g, 0, none⟩ cap l Tryd.underlying34 Tryd.underlying5 Tryd.underlying9 fun j hj => ?_
    refine own_cells h _ rfl j _ ?_
    unfold Lib.byteCells
    rw [List.getElem?_map, List.getElem?_eq_getElem hj]
    rfl
theorem belowN {B : Nat} {w W : World} (h : Below B w W) (n : Nat) : Below B w (W.drewN n) := h.trans ⟨rfl, rfl, rfl, Nat.le_refl _, fun _ _ => rfl⟩
end Go.Proofs.YtoldhhaplndkcaaDoor
