/- Package show: write's walk at a node of two parts. -/
import Derived.Test.YtffkaphbgfdpaaaGreatDoorMATa
import Derived.Deep.Cut
namespace Go.Proofs.YtffkaphbgfdpaaaGreatDoor
open Go.RowKit Go.Shelf Go.Deep T
set_option linter.unusedVariables false
set_option linter.unusedSimpArgs false
set_option maxRecDepth 100000
attribute [local go_sem ↓] Go.wp_at_zero Go.wp_at_succ
attribute [local go_sem] run_storeV run_storeV_set place_new place_new2 place_alloc place_two

set_option maxHeartbeats 8000000 in
theorem walk_bin {bt bb bv bw bp b0 o0 c : Nat} {ns : List Node} {g sc : Nat} {st : List Int} {fb : Nat} (full : Bool) (hfb : FnBare fb full) (hen : Enters Tryz.prog fb) (n : Node) (x y : Tr) (a k j : Nat) (w : World) (h : Env w bt bb bv bw bp b0 o0 c ns g sc st fb) (ha : a < ns.length) (hj : j < ns.length) (hna : ns.getD a Node.zero = n) (hnk : ns.getD k Node.zero = y.root) (hnj : ns.getD j Node.zero = x.root) (hak : a = k + 1) (hst0 : st.getD k 0 = (j : Int) + 1) (hsl : st.length = ns.length) (hkind : n.kind = 4 ∨ n.kind = 6 ∨ n.kind = 7 ∨ n.kind = 8) (hok : signOk n) (hlen : ns.length ≤ 1000000) (hX : (saidT full x).1.length ≤ 1000000000 ∧ (saidT full x).2 ≤ 800000) (hY : (saidT full y).1.length ≤ 1000000000 ∧ (saidT full y).2 ≤ 800000) (hWx : WalkOf w bt bw bv bp j (saidT full x)) (hWy : WalkOf w bt bw bv bp k (saidT full y)) :
    Calls Tryz.prog 62 #[.int .i64 (a : Int), .pointer (some ⟨bt, 0, none⟩), .pointer (some ⟨bw, 0, none⟩), .pointer (some ⟨bv, 0, none⟩), .pointer (some ⟨bp, 0, none⟩)] w fun e w' => e = .returned (SaidV (saidT full (.bin n x y))) ∧ Below w.heap.size w w' := by
  have hB0 : Below w.heap.size w (w.alloc (.cells #[.string ⟨#[]⟩, .int .i64 0] 91)) := (Below.refl _ _).alloc (Nat.le_refl _) _
  have hB1 : Below w.heap.size w ((w.alloc (.cells #[.string ⟨#[]⟩, .int .i64 0] 91)).alloc (.cells (enc n) 37)) := hB0.alloc hB0.size _
  have hR : SaidAt ((w.alloc (.cells #[.string ⟨#[]⟩, .int .i64 0] 91)).alloc (.cells (enc n) 37)) w.heap.size ([], 0) := (SaidAt.new w ([], 0)).later ((Below.refl _ _).alloc (Nat.le_refl _) _)
  have hE := h.later hB0
  have ct := hE.t
  have hn : nodeAt (w.alloc (.cells #[.string ⟨#[]⟩, .int .i64 0] 91)) ⟨b0, o0 + a * 24, none⟩ = some n := by
    rw [hE.ns_ a ha, hna]
  have hrow := heap_alloc_new (w.alloc (.cells #[.string ⟨#[]⟩, .int .i64 0] 91)) (.cells (enc n) 37)
  rw [World.size_alloc] at hrow
  have HST := Lib.hid ((heldB (n := n) h hrow ⟨_, hR⟩ (Nat.ne_of_lt (Nat.lt_succ_self _)) (Nat.le_refl _) (by omega) (by omega) (by simp) hB1).later (Below.refl _ _).drew)
  have hst := store_second w n
  have o1 : (0 : Int) ≤ (a : Int) := by omega
  have o2 : (a : Int) < (ns.length : Int) := by omega
  have hkv : (a : Int) - 1 = (k : Int) := by omega
  have HRT := Lib.hid (fun (W : World) (v : Value) => by have := right_any v (a : Int) W (by omega) (by omega); rw [hkv] at this; exact this)
  have HLT := Lib.hid (fun (W : World) (hE : Env W bt bb bv bw bp b0 o0 c ns g sc st fb) => by
    have e1 : ((a : Int)).toNat - 1 = k := by omega
    have := left_any (some ⟨g, 0, none⟩) st.length sc g st (a : Int) W rfl hE.st_ rfl (by omega) (by omega) (by rw [e1, hst0]; omega) (by rw [e1, hst0]; omega) (by omega)
    rw [e1, hst0, Int.add_sub_cancel] at this
    exact this)
  have HPX := Lib.hid (fun (W : World) (hE : Env W bt bb bv bw bp b0 o0 c ns g sc st fb) (hw : WalkOf W bt bw bv bp j (saidT full x)) => by have := part_any full hfb hen a j false (saidT full x) W hE ha hj hlen ⟨hX.1, by omega⟩ hw; rw [hna, hnj] at this; exact this)
  have HPY := Lib.hid (fun (W : World) (hE : Env W bt bb bv bw bp b0 o0 c ns g sc st fb) (hw : WalkOf W bt bw bv bp k (saidT full y)) => by have := part_any full hfb hen a k true (saidT full y) W hE ha (by omega) hlen ⟨hY.1, by omega⟩ hw; rw [hna, hnk] at this; exact this)
  have HWX := Lib.hid hWx
  have HWY := Lib.hid hWy
  have hp1 := putS_len (bareB full n false (rowK x.root)) (saidT full x)
  have hp2 := putS_len (bareB full n true (rowK y.root)) (saidT full y)
  obtain ⟨P, hP⟩ : ∃ P, putS (bareB full n false (rowK x.root)) (saidT full x) = P := ⟨_, rfl⟩
  obtain ⟨Q, hQ⟩ : ∃ Q, putS (bareB full n true (rowK y.root)) (saidT full y) = Q := ⟨_, rfl⟩
  rw [hP] at HPX hp1
  rw [hQ] at HPY hp2
  have HF : Hid (saidT full (.bin n x y) = (P.1 ++ (32 :: (signL n ++ (32 :: Q.1))), max P.2 Q.2)) := Lib.hid (by simp [saidT, hP, hQ])
  have k3 : (n.kind == 3) = false := by rcases hkind with h | h | h | h <;> rw [h] <;> rfl
  have k5 : (n.kind == 5) = false := by rcases hkind with h | h | h | h <;> rw [h] <;> rfl
  have k9 : (n.kind == 9) = false := by rcases hkind with h | h | h | h <;> rw [h] <;> rfl
  have HOK := Lib.hid hok
  have hPl : P.1.length ≤ 1000000002 := by omega
  have hQl : Q.1.length ≤ 1000000002 := by omega
  have HD := Lib.hid (show P.2 ≤ 1000000 ∧ Q.2 ≤ 1000000 from by omega)
  have hsl2 := signL_len n
  have hzz : [P.1, [32], signL n, [32], Q.1].flatten.length ≤ 140737488355328 := by simp; omega
  have HC := Lib.hid (fun (W : World) (g : Nat) h => text_any g 5 [P.1, [32], signL n, [32], Q.1] W h rfl hzz (by decide))
  have HK := Lib.hid hkind
  clear h ha hj hna hnk hnj hak hst0 hsl hok hlen hX hY hWx hWy hB0 hB1 hR hE hkv hP hQ hp1 hp2 hrow hPl hQl hsl2 hzz hfb hen hkind
  go_enter Tryz.func62, Tryz.ntmps62
  go_upto_if 48 with fail
  clear hst hn ct
  go_step
  go_step
  go_cut [57] (fun s57 W => s57 = .bool true ∧ (w.alloc (.cells #[.string ⟨#[]⟩, .int .i64 0] 91)).alloc (.cells (enc n) 37) = W)
  case first =>
    rcases HK.out with h | h | h | h
    all_goals
      go_wp2_with fail
      go_meet
      exact ⟨rfl, rfl⟩
  obtain ⟨rfl, rfl⟩ := hcut
  go_upto_region 16 with fail
  go_cut [9, 10] (fun s9 s10 W => ∃ g1 g2 : Nat, s9 = .pointer (some ⟨g1, 0, none⟩) ∧ s10 = .pointer (some ⟨g2, 0, none⟩) ∧ SaidAt W g1 P ∧ SaidAt W g2 Q ∧ w.heap.size < g1 ∧ w.heap.size < g2 ∧ HeldB w W bt bb bv bw bp b0 o0 c ns g sc st fb w.heap.size (w.heap.size + 1) n)
  case first =>
    go_region_held3 (fun w' => w'.cell? ⟨bp, 0, none⟩ = some (.func (.func 60) #[] #[.pointer (some ⟨bw, 0, none⟩), .pointer (some ⟨bb, 0, none⟩), .pointer (some ⟨bt, 0, none⟩)]) ∧ w'.cell? ⟨bv, 0, none⟩ = some (.slice (some ⟨g, 0, none⟩) st.length sc) ∧ RestB w w' bt bb bv bw bp b0 o0 c ns g sc st fb w.heap.size (w.heap.size + 1) n)
      (with_reducible first | assumption | exact HeldB.later (by assumption) (by assumption) | exact HeldB.one (by assumption) | exact HeldB.one_d (by assumption) | exact HeldB.set (by assumption) (by first | omega | (simp; omega)) | exact HST.out | exact HeldB.later (by assumption) ((Below.refl _ _).drew) | exact HeldB.two (by assumption))
      (first | (go_at_call 66; refine (HRT.out _ _).mono ?_; rintro e5 w5 ⟨rfl, rfl⟩) | (go_at_call 31; refine (HLT.out _ (Env.later HST.out.2.2.env (lastB (by assumption)))).mono ?_; rintro e5 w5 ⟨rfl, rfl⟩) | (go_at_call 60; with_reducible refine (HPX.out _ (Env.later HST.out.2.2.env (lastB (by assumption))) (HWX.out.later (lastB (by assumption)))).mono ?_; rintro e5 w5 ⟨rfl, hB5⟩; (with_reducible first | (have hp5 := pl2new_d hB5; (try simp only [World.size_alloc, sz_drew] at hp5); have hq5 := hp5.1; have hr5 := hp5.2.1; have hs5 := hp5.2.2) | (have hp5 := pl2new hB5; (try simp only [World.size_alloc, sz_drew] at hp5); have hq5 := hp5.1; have hr5 := hp5.2.1; have hs5 := hp5.2.2) | (have hp5 := pl2 hB5 (by assumption); have hq5 := hp5.1; have hr5 := hp5.2.1; have hs5 := hp5.2.2) | (have hp5 := pl1one hB5 (by assumption); (try simp only [World.size_alloc, sz_drew] at hp5); have hq5 := hp5.1; have hr5 := hp5.2.1; have hs5 := hp5.2.2) | (have hp5 := pl1new_d hB5; (try simp only [World.size_alloc, sz_drew] at hp5); have hq5 := hp5.1; have hs5 := hp5.2) | (have hp5 := pl1new hB5; (try simp only [World.size_alloc, sz_drew] at hp5); have hq5 := hp5.1; have hs5 := hp5.2) | (have hp5 := pl1 hB5 (by assumption); have hq5 := hp5.1; have hs5 := hp5.2) | skip); have hZ5 := sizB (HeldB.later (by assumption) hB5)) | (go_at_call 60; with_reducible refine (HPY.out _ (Env.later HST.out.2.2.env (lastB (by assumption))) (HWY.out.later (lastB (by assumption)))).mono ?_; rintro e5 w5 ⟨rfl, hB5⟩; (with_reducible first | (have hp5 := pl2new_d hB5; (try simp only [World.size_alloc, sz_drew] at hp5); have hq5 := hp5.1; have hr5 := hp5.2.1; have hs5 := hp5.2.2) | (have hp5 := pl2new hB5; (try simp only [World.size_alloc, sz_drew] at hp5); have hq5 := hp5.1; have hr5 := hp5.2.1; have hs5 := hp5.2.2) | (have hp5 := pl2 hB5 (by assumption); have hq5 := hp5.1; have hr5 := hp5.2.1; have hs5 := hp5.2.2) | (have hp5 := pl1one hB5 (by assumption); (try simp only [World.size_alloc, sz_drew] at hp5); have hq5 := hp5.1; have hr5 := hp5.2.1; have hs5 := hp5.2.2) | (have hp5 := pl1new_d hB5; (try simp only [World.size_alloc, sz_drew] at hp5); have hq5 := hp5.1; have hs5 := hp5.2) | (have hp5 := pl1new hB5; (try simp only [World.size_alloc, sz_drew] at hp5); have hq5 := hp5.1; have hs5 := hp5.2) | (have hp5 := pl1 hB5 (by assumption); have hq5 := hp5.1; have hs5 := hp5.2) | skip); have hZ5 := sizB (HeldB.later (by assumption) hB5)))
    all_goals
      rename_i hH
      go_wp2_with fail
      go_meet
      refine ⟨_, _, rfl, rfl, (two_set ?_ ?_ ?_).1, (two_set ?_ ?_ ?_).2, ?_, ?_, hH⟩
      all_goals first | assumption | exact place_two _ _ | exact place_new2 _ _ | exact place_new _ | exact place_alloc _ _ _ (by assumption) | (simp only [World.size_alloc]; omega) | omega
  case rest =>
    obtain ⟨g1, g2, rfl, rfl, hP1, hQ1, l1, l2, hH⟩ := hcut
    have HE := Lib.hid (heldE (w := w) (r := w.heap.size) (q := w.heap.size + 1) (n := n) ⟨hP1, hQ1, hH.2.2.row, hH.2.2.place, by omega, by omega, by omega, Nat.le_refl _, hH.2.2.last⟩)
    clear hP1 hQ1 l1 l2 hH
    obtain ⟨m, hm⟩ : ∃ m : Nat, max P.2 Q.2 = m := ⟨_, rfl⟩
    have hmx : max (P.2 : Int) (Q.2 : Int) = (m : Int) := by rw [← hm]; omega
    have HM := Lib.hid hm
    clear hm
    go_wp2_with fail
    go_region_held3 (fun w' => w'.cell? ⟨g1, 0, none⟩ = some (.string (bs P.1)) ∧ w'.cell? ⟨g1, 1, none⟩ = some (.int .i64 (P.2 : Int)) ∧ w'.cell? ⟨g2, 0, none⟩ = some (.string (bs Q.1)) ∧ w'.cell? ⟨g2, 1, none⟩ = some (.int .i64 (Q.2 : Int)) ∧ nodeAt w' ⟨(w.heap.size + 1), 0, none⟩ = some n ∧ (∀ (s : List UInt8) (k : Nat), (storeS (.pointer (some ⟨w.heap.size, 0, none⟩)) (.agg #[.string (bs s), .int .i64 (k : Int)])).run Tryz.prog w' = .ok () (w'.setRow w.heap.size (encS (s, k)))) ∧ RestE w w' w.heap.size (w.heap.size + 1) g1 g2 n P Q)
      (with_reducible first | assumption | exact HeldE.later (by assumption) (by assumption) | exact HeldE.one (by assumption) | exact HeldE.one_d (by assumption) | exact HeldE.set (by assumption) | exact HE.out.drew | exact HE.out)
      (first | (go_at_call 67; refine (sign_any _ _ HOK.out).mono ?_; rintro e5 w5 ⟨rfl, hB5⟩) | (go_at_call 63; refine (HC.out _ _ (by first | (refine (rowNew ?_).2; simp) | (refine (rowNew ?_).1; simp))).mono ?_; rintro e5 w5 ⟨rfl, hB5⟩))
    all_goals
      rename_i hH
      have HR9 := Lib.hid (Place.row hH.2.2.2.2.2.2.place)
      have HB9 := Lib.hid hH.2.2.2.2.2.2.last
      clear hH
      go_wp2_with fail
      refine bodyPost_ret (results_said rfl _ rfl HR9.out) rfl ?_
      exact ⟨by rw [HF.out, HM.out], HB9.out⟩
end Go.Proofs.YtffkaphbgfdpaaaGreatDoor
