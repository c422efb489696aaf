/- Package show: write. -/
import Derived.Test.YtffkaphbgfdpaaaGreatDoorShowM
import Derived.Test.YtffkaphbgfdpaaaGreatDoorMATa
import Derived.Test.YtffkaphbgfdpaaaGreatDoorMTc
namespace Go.Proofs.YtffkaphbgfdpaaaGreatDoor
open Go.RowKit Go.Shelf Go.Deep T
set_option linter.unusedVariables false
set_option linter.unusedSimpArgs false
set_option maxRecDepth 100000

theorem env_new {w1 : World} {kt kb b0 o0 c : Nat} {ns : List Node} {g sc : Nat} {st : List Int} {fb : Nat} (ct : w1.cell? ⟨kt, 0, none⟩ = some (.slice (some ⟨b0, o0, none⟩) ns.length c)) (cb : w1.cell? ⟨kb, 0, none⟩ = some (.func (.func fb) #[] #[]))
    (hns : ∀ i, i < ns.length → nodeAt w1 ⟨b0, o0 + i * 24, none⟩ = some (ns.getD i Node.zero)) (hst : ∀ j, j < st.length → w1.cell? ⟨g, j, none⟩ = some (.int .i64 (st.getD j 0))) (l1 : kt < w1.heap.size) (l2 : kb < w1.heap.size) :
    Env (((w1.alloc (.cells #[.slice (some ⟨g, 0, none⟩) st.length sc] 54)).alloc (.cells #[.func (.func 62) #[] #[.pointer (some ⟨kt, 0, none⟩), .pointer (some ⟨w1.heap.size + 1, 0, none⟩), .pointer (some ⟨w1.heap.size, 0, none⟩), .pointer (some ⟨w1.heap.size + 1 + 1, 0, none⟩)]] 112)).alloc (.cells #[.func (.func 60) #[] #[.pointer (some ⟨w1.heap.size + 1, 0, none⟩), .pointer (some ⟨kb, 0, none⟩), .pointer (some ⟨kt, 0, none⟩)]] 114))
      kt kb w1.heap.size (w1.heap.size + 1) (w1.heap.size + 1 + 1) b0 o0 c ns g sc st fb := by
  have hA : ∀ (W : World) (o : Obj), Below W.heap.size W (W.alloc o) := fun W o => (Below.refl _ _).alloc (Nat.le_refl _) _
  have later : ∀ {W : World} {o : Obj} {a : Addr} {v : Value}, W.cell? a = some v → (W.alloc o).cell? a = some v := fun h => ((hA _ _).cell (World.block_lt_of_cell? _ _ h)).trans h
  have new : ∀ (W : World) (x : Value) (T : TypeId), (W.alloc (.cells #[x] T)).cell? ⟨W.heap.size, 0, none⟩ = some x := fun W x T => (cell_of_row _ _ 0 _ _ _ (heap_alloc_new W _)).trans rfl
  refine ⟨later (later (later ct)), later (later (later cb)), later (later (new w1 _ _)), ?_, ?_, fun i hi => ?_, fun j hj => later (later (later (hst j hj)))⟩
  · have := new (w1.alloc (.cells #[.slice (some ⟨g, 0, none⟩) st.length sc] 54)) (.func (.func 62) #[] #[.pointer (some ⟨kt, 0, none⟩), .pointer (some ⟨w1.heap.size + 1, 0, none⟩), .pointer (some ⟨w1.heap.size, 0, none⟩), .pointer (some ⟨w1.heap.size + 1 + 1, 0, none⟩)]) 112
    rw [World.size_alloc] at this
    exact later this
  · have := new ((w1.alloc (.cells #[.slice (some ⟨g, 0, none⟩) st.length sc] 54)).alloc (.cells #[.func (.func 62) #[] #[.pointer (some ⟨kt, 0, none⟩), .pointer (some ⟨w1.heap.size + 1, 0, none⟩), .pointer (some ⟨w1.heap.size, 0, none⟩), .pointer (some ⟨w1.heap.size + 1 + 1, 0, none⟩)]] 112)) (.func (.func 60) #[] #[.pointer (some ⟨w1.heap.size + 1, 0, none⟩), .pointer (some ⟨kb, 0, none⟩), .pointer (some ⟨kt, 0, none⟩)]) 114
    rw [World.size_alloc, World.size_alloc] at this
    exact this
  · exact nodeAt_later (hA _ _) (nodeAt_later (hA _ _) (nodeAt_later (hA _ _) (hns i hi)))
theorem below_three (w : World) (a b c : Obj) : Below w.heap.size w (((w.alloc a).alloc b).alloc c) := (((Below.refl _ _).alloc (Nat.le_refl _) _).alloc (by simp) _).alloc (by simp; omega) _
theorem write_any (full : Bool) {fb : Nat} (hfb : FnBare fb full) (hen : Enters Tryz.prog fb) (t : Tr) (A : Option Addr) (c : Nat) (w : World) (hA : Ns w A t.flat) (hF : t.Fit) (hok : ∀ n ∈ t.flat, NodeOk2 n) (hl : t.flat.length ≤ 400000) (ht : Tab10 w) (hd : Deb w) :
    Calls Tryz.prog 45 #[.slice A t.flat.length c, .func (.func fb) #[] #[]] w fun e w' => e = .returned (SaidV (saidT full t)) ∧ Below w.heap.size w w' := by
  have hmf : ∀ (fn : Fn) (first cap : Array Value) (w : World), (Instr.makeFunc fn first cap).run Tryz.prog w = .ok (.func fn first cap) w := fun _ _ _ _ => rfl
  have hp := t.flat_pos
  obtain ⟨b0, o0, rfl, hN⟩ := hA hp
  obtain ⟨W0, hW0⟩ : ∃ W0, ((w.alloc (.cells #[.slice (some ⟨b0, o0, none⟩) t.flat.length c] 22)).alloc (.cells #[.func (.func fb) #[] #[]] 52)).alloc (.cells #[.string ⟨#[]⟩, .int .i64 0] 91) = W0 := ⟨_, rfl⟩
  have hB3 : Below w.heap.size w W0 := by rw [← hW0]; exact below_three _ _ _ _
  have k0 : W0.cell? ⟨w.heap.size, 0, none⟩ = some (.slice (some ⟨b0, o0, none⟩) t.flat.length c) := by rw [← hW0]; simp [go_sem]
  have k1 : W0.cell? ⟨w.heap.size + 1, 0, none⟩ = some (.func (.func fb) #[] #[]) := by rw [← hW0]; simp [go_sem]
  have k2 : Place W0 (w.heap.size + 1 + 1) := by
    rw [← hW0]
    have := SaidAt.new ((w.alloc (.cells #[.slice (some ⟨b0, o0, none⟩) t.flat.length c] 22)).alloc (.cells #[.func (.func fb) #[] #[]] 52)) ([], 0)
    rw [World.size_alloc, World.size_alloc] at this
    exact ⟨_, this⟩
  have HN : Hid (∀ i, i < t.flat.length → nodeAt W0 ⟨b0, o0 + i * 24, none⟩ = some (t.flat.getD i Node.zero)) := Lib.hid fun i hi => nodeAt_later hB3 (hN i hi)
  have HW0 := Lib.hid (show w.heap.size + 1 + 1 < W0.heap.size from k2.lt)
  have K0 := Lib.hid k0
  have K1 := Lib.hid k1
  have K2 := Lib.hid k2
  have HB3 := Lib.hid hB3
  have HT := Lib.hid (ht.later hB3)
  have HD := Lib.hid (hd.later hB3)
  clear k1 k2 hB3 hA hN ht hd
  go_enter Tryz.func45, Tryz.ntmps45
  go_wp2_with fail
  refine (of_any _ c t.flat _ (fun _ => ⟨b0, o0, rfl, HN.out⟩) (by omega)).mono ?_
  rintro e w1 ⟨hB, hres⟩
  have hof : ofT t.flat [] = some (startsR [t]) := ofT_tree t [] hF
  rcases hres with ⟨hno, rfl⟩ | ⟨st, v, hst, rfl, hown, hs, hlen⟩
  · rw [hof] at hno; cases hno
  have hst2 : startsR [t] = st := Option.some.inj (hof.symm.trans hst)
  have hst3 : st = t.starts 0 := by rw [← hst2]; simp [startsR, flatR]
  obtain ⟨A2, c2, rfl, hst1⟩ := hown.form
  obtain ⟨g, rfl, hg, hst4⟩ := hst1 (by omega)
  have HE := Lib.hid (env_new (sc := c2) ((hB.cell (World.block_lt_of_cell? W0 _ K0.out)).trans K0.out) ((hB.cell (World.block_lt_of_cell? W0 _ K1.out)).trans K1.out) (fun i hi => nodeAt_later hB (HN.out i hi)) hst4 (by have := hB.size; have := HW0.out; omega) (by have := hB.size; have := HW0.out; omega))
  have ct := HE.out.t
  have HS3 := Lib.hid hst3
  have HL := Lib.hid hlen
  have hB9 := below_three w1 (.cells #[.slice (some ⟨g, 0, none⟩) st.length c2] 54) (.cells #[.func (.func 62) #[] #[.pointer (some ⟨w.heap.size, 0, none⟩), .pointer (some ⟨w1.heap.size + 1, 0, none⟩), .pointer (some ⟨w1.heap.size, 0, none⟩), .pointer (some ⟨w1.heap.size + 1 + 1, 0, none⟩)]] 112) (.cells #[.func (.func 60) #[] #[.pointer (some ⟨w1.heap.size + 1, 0, none⟩), .pointer (some ⟨w.heap.size + 1, 0, none⟩), .pointer (some ⟨w.heap.size, 0, none⟩)]] 114)
  have HB1 := Lib.hid (hB.trans (hB9.mono hB.size))
  have hn1 : IntKind.i64.wrap ((t.flat.length : Int) - 1) = ((t.flat.length - 1 : Nat) : Int) := by rw [IntWalk.i64_in _ (by omega)]; omega
  have HZ := Lib.hid (show t.flat.length ≤ 1000000 from by omega)
  clear hst1 hst2 hlen hown hs hst hof hst4 hst3 hB hB9 hg hp
  go_wp2_with fail
  have hw := walk_any full hfb hen HZ.out (by rw [HL.out]) t 0 _ HE.out (by rw [HS3.out]; exact SubAt.whole t) hF hok hl (HT.out.later HB1.out) (HD.out.later HB1.out) _ (Below.refl _ _)
  rw [Nat.zero_add] at hw
  refine hw.mono ?_
  rintro e w2 ⟨rfl, hB2⟩
  have hP2 : Place w2 (w.heap.size + 1 + 1) := (K2.out.later HB1.out).later hB2
  have hs := run_storeV hP2 (saidT full t)
  have HR9 : Hid (SaidAt (w2.setRow (w.heap.size + 1 + 1) (encS (saidT full t))) (w.heap.size + 1 + 1) (saidT full t)) := Lib.hid (SaidAt.set hP2)
  have HB9 := Lib.hid (below_setRow ((HB3.out.trans (HB1.out.mono HB3.out.size)).trans (hB2.mono (HB3.out.trans (HB1.out.mono HB3.out.size)).size)) (show w.heap.size ≤ w.heap.size + 1 + 1 from by omega) (encS (saidT full t)))
  clear hP2 hB2 ct hw
  go_wp2_with fail
  refine bodyPost_ret (results_said rfl _ rfl HR9.out) rfl ?_
  exact ⟨rfl, HB9.out⟩
end Go.Proofs.YtffkaphbgfdpaaaGreatDoor
