/- The document's at and codes. -/
import Derived.Test.YtckbcmoanadckaaDoorInsns
namespace Go.Proofs.YtckbcmoanadckaaDoor
open Go.RowKit Go.Shelf Go.Deep
set_option linter.unusedVariables false
set_option linter.unusedSimpArgs false

def encU (n : Nat) : List Value := [.int .u32 n]
def encC (n : Nat) : List Value := [.int .u16 n]
theorem encU_ok : EncOk 1 encU := ⟨fun _ => rfl, fun a v hv => by
  simp only [encU, List.mem_cons, List.not_mem_nil, or_false] at hv
  rw [hv]
  rfl, by decide⟩
theorem encC_ok : EncOk 1 encC := ⟨fun _ => rfl, fun a v hv => by
  simp only [encC, List.mem_cons, List.not_mem_nil, or_false] at hv
  rw [hv]
  rfl, by decide⟩
theorem infoU16 : (Tryd.prog.info? 22).map (fun i => (i.zero, i.size, i.bytes)) = some (some (.int .u16 0), 1, 2) := by kernel_rfl
theorem infoU32 : (Tryd.prog.info? 23).map (fun i => (i.zero, i.size, i.bytes)) = some (some (.int .u32 0), 1, 4) := by kernel_rfl
theorem at_any (A : Option Addr) (c : Nat) (ns : List Nat) (k : Nat) (w : World) (hA : Rs encU w A ns) (hk : k ≤ 10) (hl : ns.length ≤ 4611686018427387904) :
    Calls Tryd.prog 42 #[.slice A ns.length c, .int .i64 k] w fun e w' => e = .returned (.int .u32 (ns.getD k 0)) ∧ w = w' := by
  have k0 : (0 : Int) ≤ (k : Int) := by omega
  have k1 : ¬ (k : Int) < 0 := by omega
  by_cases h : k < ns.length
  · have h1 : (k : Int) < (ns.length : Int) := by omega
    have h2 : ¬ (k : Int) ≥ (ns.length : Int) := by omega
    obtain ⟨b, o, rfl, -⟩ := hA (by omega)
    have hx : ns[k]? = some (ns.getD k 0) := by rw [List.getD_eq_getElem?_getD, List.getElem?_eq_getElem h]; rfl
    obtain ⟨x, hxx⟩ : ∃ x, ns.getD k 0 = x := ⟨_, rfl⟩
    rw [hxx] at hx ⊢
    have hc : w.cell? ⟨b, o + k * 1 + 0, none⟩ = some (.int .u32 x) := hA.cell encU_ok hx (j := 0) rfl
    simp only [Nat.mul_one, Nat.add_zero] at hc
    clear hxx hx hA h
    go_enter Tryd.func42, Tryd.ntmps42
    go_wp2_with fail
    go_ret
    exact ⟨rfl, rfl⟩
  · have h1 : (k : Int) ≥ (ns.length : Int) := by omega
    have hx : ns.getD k 0 = 0 := by rw [List.getD_eq_getElem?_getD, List.getElem?_eq_none (by omega)]; rfl
    rw [hx]
    clear hx hA h
    go_enter Tryd.func42, Tryd.ntmps42
    go_wp2_with fail
    go_ret
    exact ⟨rfl, rfl⟩
def codesN (c : Nat) : List Nat := (List.range c).filter knownB
theorem codesN_no {c : Nat} (h : knownB c = false) : codesN (c + 1) = codesN c := by
  unfold codesN
  rw [List.range_succ, List.filter_append]
  simp [h]
theorem codesN_yes {c : Nat} (h : knownB c = true) : codesN (c + 1) = codesN c ++ [c] := by
  unfold codesN
  rw [List.range_succ, List.filter_append]
  simp [h]
theorem codesN_len (c : Nat) : (codesN c).length ≤ c := by
  unfold codesN
  have := List.length_filter_le knownB (List.range c)
  rwa [List.length_range] at this
set_option maxRecDepth 100000 in
set_option maxHeartbeats 3200000 in
theorem codes_any (w : World) : Calls Tryd.prog 43 #[] w fun e w' => ∃ v, e = .returned v ∧ OwnG 1 encC 22 w' w.heap.size v (codesN 256) ∧ Below w.heap.size w w' := by
  obtain ⟨i0, hi0, hz0, hz1, hz2⟩ := info_parts infoU16
  have Hi0 := Lib.hid hi0
  have Hz0 := Lib.hid hz0
  have Hz1 := Lib.hid hz1
  have Hz2 := Lib.hid hz2
  clear hi0 hz0 hz1 hz2
  go_enter Tryd.func43, Tryd.ntmps43
  go_wp2_with fail
  go_loopg [1, 2] 256 (fun g s1 s2 wr => ∃ (c n cap : Nat) (A : Option Addr), c + g = 256 ∧ s1 = .slice A n cap ∧ s2 = .int .i64 c ∧ n = (codesN c).length ∧ wr.ownsRow w.heap.size 22 1 (.slice A n cap) n (flatG encC (codesN c)) ∧ Below w.heap.size w wr)
  case atStart => exact ⟨0, 0, 0, none, rfl, rfl, rfl, rfl, own_nil _ _ _ _, Below.refl _ _⟩
  case round =>
    obtain ⟨c, n, cap, A, hcg, rfl, rfl, hn, hown, hB⟩ := hrel
    have c0 : (0 : Int) ≤ (c : Int) := by omega
    have HO := Lib.hid hown
    have HB := Lib.hid hB
    have Hn := Lib.hid hn
    have hlen := codesN_len c
    have HS := Lib.hid hB.size
    have c2 : (c : Int) ≤ 256 := by omega
    have n1 : n ≤ 257 := by omega
    clear hown hB hn hlen
    cases gk with
    | zero =>
      have c1 : ¬ (c : Int) < 256 := by omega
      have hc : c = 256 := by omega
      have Hc := Lib.hid hc
      clear hc hcg
      go_wp2_with fail
      go_ret
      have h1 := HO.out
      have h2 := Hn.out
      rw [Hc.out] at h1 h2
      refine ⟨_, rfl, ?_, HB.out⟩
      unfold OwnG
      rw [← h2]
      exact h1
    | succ g =>
      have c1 : (c : Int) < 256 := by omega
      have hw : IntKind.u16.wrap (c : Int) = c := IntWalk.u16_in _ (by omega)
      have ck := rknown_any c wr
      cases hk : knownB c with
      | false =>
        rw [hk] at ck
        have Ck := Lib.hid ck
        have Hk := Lib.hid hk
        clear ck hk
        go_wp2_with fail
        refine Ck.out.mono ?_
        rintro e w2 ⟨rfl, rfl⟩
        go_wp2_with fail
        go_roundg g
        case measure => omega
        case rel => exact ⟨c + 1, n, cap, A, by omega, rfl, by go_num, by rw [codesN_no Hk.out]; exact Hn.out, by rw [codesN_no Hk.out]; exact HO.out, HB.out⟩
      | true =>
        rw [hk] at ck
        have Ck := Lib.hid ck
        have Hk := Lib.hid hk
        clear ck hk
        go_wp2_with fail
        refine Ck.out.mono ?_
        rintro e w2 ⟨rfl, rfl⟩
        have HO2 := Lib.hid (show (wr.alloc (.cells #[.int .u16 c] 22)).ownsRow w.heap.size 22 1 (.slice A n cap) n (flatG encC (codesN c)) from own_below HO.out ((Below.refl _ wr).alloc (Nat.le_refl _) _))
        have hx := heap_alloc_new wr (.cells #[.int .u16 c] 22)
        have hnews : ∀ j u, (flatG encC [c])[j]? = some u → (wr.alloc (.cells #[.int .u16 c] 22)).cell? ((⟨wr.heap.size, 0, none⟩ : Addr).add j) = some u := rs_news (l := [c]) (enc := encC) hx
        have Hnews := Lib.hid hnews
        clear hx hnews
        go_wp2_with (at_builtin; refine wpList_append_lies _ rfl _ _ 72 rfl w.heap.size 22 i0 (.int .u16 0) 1 2 Tryd.underlying72 Hi0.out Hz0.out Hz1.out Hz2.out rfl (by decide) (.slice A n cap) n (flatG encC (codesN c)) rfl HO2.out ⟨wr.heap.size, 0, none⟩ 1 1 (flatG encC [c]) rfl rfl Hnews.out (flatG_one encC_ok _) (by decide) (by simp only [maxLen]; omega) (by omega) (by have := HS.out; simp; omega) (wr.heap.size + 1) (by simp) ?_; intro g2 cap2 w5 hown2 hgrow hat hlt)
        have Hf := Lib.hid (And.intro hown2 hgrow)
        clear hown2 hgrow hat hlt
        go_roundg g
        case measure => omega
        case rel => exact ⟨c + 1, n + 1, cap2, some ⟨g2, 0, none⟩, by omega, rfl, by go_num, by rw [codesN_yes Hk.out, List.length_append, ← Hn.out]; rfl, by rw [codesN_yes Hk.out, flatG_append]; exact Hf.out.1, (HB.out.alloc HS.out _).grown Hf.out.2 (by have := HS.out; simp; omega) (fun b e => (own_lt HO.out e).1)⟩
end Go.Proofs.YtckbcmoanadckaaDoor
