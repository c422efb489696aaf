/- riddlelaw10.awake: it answers true. -/
import Derived.Test.YtoknkgeojhekoaaDoorLexW
namespace Go.Proofs.YtoknkgeojhekoaaDoor
open Go.RowKit Go.Shelf
set_option linter.unusedVariables false
set_option linter.unusedSimpArgs false

def awake1 : ByteArray := ⟨#[105, 112, 60, 61, 48, 120, 48, 102]⟩
def awake2 : ByteArray := ⟨#[97, 32, 59]⟩
theorem lex_awake1 : lexS awake1 = .ok [⟨2, 0, ⟨#[105, 112]⟩, 0⟩, ⟨5, 2, ⟨#[60, 61]⟩, 0⟩, ⟨1, 4, ⟨#[48, 120, 48, 102]⟩, 15⟩, ⟨0, 8, ⟨#[]⟩, 0⟩] := by kernel_rfl
theorem lex_awake2 : lexS awake2 = .error (2, 101) := by kernel_rfl
theorem LexPost.bad {w : World} {R : LexR} {p : Nat × Int} {e : Ending} {w' : World} (h : LexPost w R e w') (hR : R = .error p) : e = .returned (.tuple #[.slice none 0 0, .int .i64 p.1, .int .i64 p.2]) ∧ Below w.heap.size w w' := by
  subst hR
  exact ⟨h.2, h.1⟩
theorem LexPost.good {w : World} {R : LexR} {ts : List Tk} {e : Ending} {w' : World} (h : LexPost w R e w') (hR : R = .ok ts) : ∃ g cap, e = .returned (.tuple #[.slice (some ⟨g, 0, none⟩) ts.length cap, .int .i64 0, .int .i64 0]) ∧ OwnG 4 encT 32 w' w.heap.size (.slice (some ⟨g, 0, none⟩) ts.length cap) ts ∧ Below w.heap.size w w' := by
  subst hR
  obtain ⟨h1, g, cap, h2, h3⟩ := h
  exact ⟨g, cap, h2, h3, h1⟩
theorem max_later {w W : World} {m : Int} (hm : w.cell? ⟨0, 0, none⟩ = some (.int .i64 m)) (hB : Below w.heap.size w W) : W.cell? ⟨0, 0, none⟩ = some (.int .i64 m) :=
  (hB.cell (p := ⟨0, 0, none⟩) (World.block_lt_of_cell? w _ hm)).trans hm
set_option maxRecDepth 100000 in
set_option maxHeartbeats 1600000 in
theorem awake_any (m : Int) (w : World) (hm : w.cell? ⟨0, 0, none⟩ = some (.int .i64 m)) : Calls Tryd.prog 14 #[] w fun e w' => e = .returned (.bool true) ∧ Below w.heap.size w w' := by
  have c1 := lex_any awake1 m w (by decide) hm
  have C1 := Lib.hid c1
  have Hm := Lib.hid hm
  clear c1 hm
  go_enter Tryd.func14, Tryd.ntmps14
  go_wp2_with fail
  refine C1.out.mono ?_
  intro e w1 h
  obtain ⟨g, cap, rfl, hown, hB⟩ := h.good lex_awake1
  have hRs := hown.is encT_ok
  obtain ⟨a0, a1, a2, a3⟩ := tk_cells hRs (i := 1) rfl
  obtain ⟨b0, b1, b2, b3⟩ := tk_cells hRs (i := 2) rfl
  have hg := (own_lt hown (b := g) rfl).2
  have c2 := lex_any awake2 m w1 (by decide) (max_later Hm.out hB)
  have C2 := Lib.hid c2
  have HB := Lib.hid hB
  have Ha := Lib.hid (And.intro a0 (And.intro a1 (And.intro a2 a3)))
  have Hb := Lib.hid (And.intro b0 (And.intro b1 (And.intro b2 b3)))
  clear hown hRs a0 a1 a2 a3 b0 b1 b2 b3 c2 h hB
  go_wp2_with fail
  refine C2.out.mono ?_
  intro e w2 h
  obtain ⟨rfl, hB2⟩ := h.bad lex_awake2
  obtain ⟨a0, a1, a2, a3⟩ := Ha.out
  obtain ⟨b0, b1, b2, b3⟩ := Hb.out
  have a0 := (hB2.cell (p := ⟨g, _, none⟩) hg).trans a0
  have a1 := (hB2.cell (p := ⟨g, _, none⟩) hg).trans a1
  have a2 := (hB2.cell (p := ⟨g, _, none⟩) hg).trans a2
  have a3 := (hB2.cell (p := ⟨g, _, none⟩) hg).trans a3
  have b0 := (hB2.cell (p := ⟨g, _, none⟩) hg).trans b0
  have b1 := (hB2.cell (p := ⟨g, _, none⟩) hg).trans b1
  have b2 := (hB2.cell (p := ⟨g, _, none⟩) hg).trans b2
  have b3 := (hB2.cell (p := ⟨g, _, none⟩) hg).trans b3
  simp only [Nat.zero_add, Nat.one_mul, Nat.reduceMul, Nat.reduceAdd] at a0 a1 a2 a3 b0 b1 b2 b3
  have t1 : tkB ⟨5, 2, ⟨#[60, 61]⟩, 0⟩ ⟨5, 2, ⟨#[60, 61]⟩, 0⟩ = true := tkB_self _
  have t2 : tkB ⟨1, 4, ⟨#[48, 120, 48, 102]⟩, 15⟩ ⟨1, 4, ⟨#[48, 120, 48, 102]⟩, 15⟩ = true := tkB_self _
  have HF := Lib.hid (HB.out.trans (hB2.mono HB.out.size))
  clear hB2 h
  go_wp2_with fail
  go_ret
  exact ⟨rfl, HF.out⟩
end Go.Proofs.YtoknkgeojhekoaaDoor
