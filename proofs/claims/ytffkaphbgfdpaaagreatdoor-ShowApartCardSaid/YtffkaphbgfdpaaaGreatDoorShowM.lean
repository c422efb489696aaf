/- Package show: write's walk at any tree. -/
import Derived.Test.YtffkaphbgfdpaaaGreatDoorShowK
namespace Go.Proofs.YtffkaphbgfdpaaaGreatDoor
open Go.RowKit Go.Shelf Go.Deep T
set_option linter.unusedVariables false
set_option linter.unusedSimpArgs false
set_option maxRecDepth 100000

theorem root_at {ns : List Node} {st : List Int} {T : Tr} {o : Nat} (h : SubAt ns st T o) : ns.getD (o + T.flat.length - 1) Node.zero = T.root := by
  obtain ⟨l, e, hl⟩ := T.flat_last
  have hp := T.flat_pos
  rw [show o + T.flat.length - 1 = o + (T.flat.length - 1) from by omega, h.nodes _ (by omega), e]
  have := getD_right (a := l) (b := [T.root]) (d := Node.zero) 0
  rw [show (l ++ [T.root]).length - 1 = l.length + 0 from by simp, this]
  rfl
theorem arity1 {k : Int} (h : arityK k = some 1) : k = 3 ∨ k = 5 ∨ k = 9 := by
  unfold arityK at h
  repeat' split at h
  all_goals first | omega | (cases h; done) | simp_all
theorem arity2 {k : Int} (h : arityK k = some 2) : k = 4 ∨ k = 6 ∨ k = 7 ∨ k = 8 := by
  unfold arityK at h
  repeat' split at h
  all_goals first | omega | (cases h; done) | simp_all
theorem walk_any {bt bb bs bw bp b0 o0 c : Nat} {ns : List Node} {g sc : Nat} {st : List Int} {fb : Nat} (full : Bool) (hfb : FnBare fb full) (hen : Enters Tryz.prog fb) (hlen : ns.length ≤ 1000000) (hsl : st.length = ns.length) :
    ∀ (T : Tr) (o : Nat) (w : World), Env w bt bb bs bw bp b0 o0 c ns g sc st fb → SubAt ns st T o → T.Fit → (∀ n ∈ T.flat, NodeOk2 n) → T.flat.length ≤ 400000 → Tab10 w → Deb w → WalkOf w bt bw bs bp (o + T.flat.length - 1) (saidT full T)
  | .leaf n, o, w, h, hT, hF, hok, hl, ht, hd => fun W hB => by
    have e : o + (Tr.leaf n).flat.length - 1 = o := by simp [Tr.flat]
    rw [e]
    exact walk_leaf full n o W (h.later hB) hT hF (hok n (by simp [Tr.flat])) (ht.later hB) (hd.later hB) hlen
  | .un n x, o, w, h, hT, hF, hok, hl, ht, hd => fun W hB => by
    have hx : x.flat.length + 1 = (Tr.un n x).flat.length := by simp [Tr.flat]
    have hp := x.flat_pos
    have hfit := hT.fits
    have hokx : ∀ m ∈ x.flat, NodeOk2 m := fun m hm => hok m (by simp [Tr.flat, hm])
    have sx := said_len full x fun m hm => (hokx m hm).ok
    have hW := walk_any full hfb hen hlen hsl x o W (h.later hB) hT.unK.1 hF.2 hokx (by omega) (ht.later hB) (hd.later hB)
    have e : o + (Tr.un n x).flat.length - 1 = o + x.flat.length := by omega
    have e2 : o + x.flat.length = (o + x.flat.length - 1) + 1 := by omega
    rw [e]
    have hS : (saidT full x).1.length ≤ 1000000000 ∧ (saidT full x).2 ≤ 800000 := by omega
    have hn : NodeOk2 n := hok n (by simp [Tr.flat])
    rcases arity1 hF.1 with k | k | k
    · exact walk_load full n x _ _ W (h.later hB) (by omega) hT.unK.2 e2 k hn (ht.later hB) hlen hS hW
    · exact walk_minus full hfb hen n x _ _ W (h.later hB) (by omega) hT.unK.2 (root_at hT.unK.1) e2 k hlen hS hW
    · exact walk_not full hfb hen n x _ _ W (h.later hB) (by omega) hT.unK.2 (root_at hT.unK.1) e2 k hlen hS hW
  | .bin n x y, o, w, h, hT, hF, hok, hl, ht, hd => fun W hB => by
    have hx : x.flat.length + (y.flat.length + 1) = (Tr.bin n x y).flat.length := by simp [Tr.flat]
    have hp := x.flat_pos
    have hq := y.flat_pos
    have hfit := hT.fits
    obtain ⟨t1, t2, t3, t4⟩ := hT.binK
    have hokx : ∀ m ∈ x.flat, NodeOk2 m := fun m hm => hok m (by simp [Tr.flat, hm])
    have hoky : ∀ m ∈ y.flat, NodeOk2 m := fun m hm => hok m (by simp [Tr.flat, hm])
    have sx := said_len full x fun m hm => (hokx m hm).ok
    have sy := said_len full y fun m hm => (hoky m hm).ok
    have hWx := walk_any full hfb hen hlen hsl x o W (h.later hB) t1 hF.2.1 hokx (by omega) (ht.later hB) (hd.later hB)
    have hWy := walk_any full hfb hen hlen hsl y (o + x.flat.length) W (h.later hB) t2 hF.2.2 hoky (by omega) (ht.later hB) (hd.later hB)
    have e : o + (Tr.bin n x y).flat.length - 1 = o + x.flat.length + y.flat.length := by omega
    rw [e]
    have hn : NodeOk2 n := hok n (by simp [Tr.flat])
    exact walk_bin full hfb hen n x y _ (o + x.flat.length + y.flat.length - 1) (o + x.flat.length - 1) W (h.later hB) (by omega) (by omega) t3 (root_at t2) (root_at t1) (by omega) (by rw [t4]; omega) hsl (arity2 hF.1) (hn.sign hF.1) hlen (by omega) (by omega) hWx hWy
end Go.Proofs.YtffkaphbgfdpaaaGreatDoor
