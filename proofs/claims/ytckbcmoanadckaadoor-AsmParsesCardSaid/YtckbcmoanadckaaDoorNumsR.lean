/- The document's numbers: the numbers that stand in a line. -/
import Derived.Test.YtckbcmoanadckaaDoorNumR
namespace Go.Proofs.YtckbcmoanadckaaDoor
open Go.RowKit Go.Shelf Go.Deep
set_option linter.unusedVariables false
set_option linter.unusedSimpArgs false

def runD (l : List UInt8) : List UInt8 := l.takeWhile isD
theorem runD_step : ∀ (l : List UInt8) (i : Nat) (h : i < l.length), i ≤ (runD l).length → (isD l[i] = true → i + 1 ≤ (runD l).length) ∧ (isD l[i] = false → i = (runD l).length)
  | b :: l, 0, h, hi => by
    unfold runD
    rw [List.takeWhile_cons]
    constructor
    · intro hp
      have hp : isD b = true := hp
      rw [if_pos hp]; simp
    · intro hp
      have hp : isD b = false := hp
      rw [if_neg (by simp [hp])]; rfl
  | b :: l, i + 1, h, hi => by
    unfold runD at hi ⊢
    rw [List.takeWhile_cons] at hi ⊢
    by_cases hp : isD b = true
    · rw [if_pos hp] at hi ⊢
      obtain ⟨q1, q2⟩ := runD_step l i (by simpa using h) (by unfold runD; simpa using hi)
      unfold runD at q1 q2
      exact ⟨fun e => by have := q1 e; simp; omega, fun e => by have := q2 e; simp; omega⟩
    · rw [if_neg hp] at hi
      simp at hi
theorem runD_le (l : List UInt8) : (runD l).length ≤ l.length := (List.takeWhile_sublist _).length_le
theorem runD_take (l : List UInt8) : l.take (runD l).length = runD l := by
  unfold runD
  induction l with
  | nil => rfl
  | cons b l ih =>
    rw [List.takeWhile_cons]
    split
    · simp [ih]
    · rfl
theorem runD_digits (l : List UInt8) : ∀ b ∈ runD l, isD b = true := by
  unfold runD
  induction l with
  | nil => intro b hb; cases hb
  | cons c l ih =>
    intro b hb
    rw [List.takeWhile_cons] at hb
    split at hb
    · rename_i h
      rcases List.mem_cons.1 hb with rfl | hb
      · exact h
      · exact ih b hb
    · cases hb
/-- The numbers of a text, up to the first run that is none. -/
def numsF : Nat → List UInt8 → List Nat
  | 0, _ => []
  | f + 1, [] => []
  | f + 1, b :: r => if isD b then (match numR (runD (b :: r)) with
      | none => []
      | some v => v :: numsF f ((b :: r).drop ((runD (b :: r)).length + 1))) else numsF f r
theorem numsF_more : ∀ (f g : Nat) (l : List UInt8), l.length ≤ f → l.length ≤ g → numsF f l = numsF g l
  | 0, 0, l, _, _ => rfl
  | 0, g + 1, [], _, _ => rfl
  | f + 1, 0, [], _, _ => rfl
  | f + 1, g + 1, [], _, _ => rfl
  | 0, g + 1, b :: l, h, _ => by simp at h
  | f + 1, 0, b :: l, _, h => by simp at h
  | f + 1, g + 1, b :: r, h1, h2 => by
    have h1 : r.length ≤ f := by simpa using h1
    have h2 : r.length ≤ g := by simpa using h2
    unfold numsF
    rw [numsF_more f g r h1 h2, numsF_more f g _ (by rw [List.length_drop, List.length_cons]; omega) (by rw [List.length_drop, List.length_cons]; omega)]
def numsL (l : List UInt8) : List Nat := numsF l.length l
theorem numsL_nil : numsL [] = [] := rfl
theorem numsL_not {b : UInt8} (r : List UInt8) (h : isD b = false) : numsL (b :: r) = numsL r := by
  unfold numsL
  show numsF (r.length + 1) (b :: r) = _
  rw [numsF.eq_def]
  simp only [h, Bool.false_eq_true, if_false]
theorem numsL_bad {b : UInt8} (r : List UInt8) (h : isD b = true) (hn : numR (runD (b :: r)) = none) : numsL (b :: r) = [] := by
  unfold numsL
  show numsF (r.length + 1) (b :: r) = _
  rw [numsF.eq_def]
  simp only [h, if_true, hn]
theorem numsL_run {b : UInt8} (r : List UInt8) (h : isD b = true) {v : Nat} (hn : numR (runD (b :: r)) = some v) : numsL (b :: r) = v :: numsL ((b :: r).drop ((runD (b :: r)).length + 1)) := by
  unfold numsL
  show numsF (r.length + 1) (b :: r) = _
  rw [numsF.eq_def]
  simp only [h, if_true, hn]
  rw [numsF_more r.length _ _ (by rw [List.length_drop, List.length_cons]; omega) (Nat.le_refl _)]
theorem numR_le {l : List UInt8} {v : Nat} (h : numR l = some v) : v ≤ maxU := by
  unfold numR at h
  split at h
  · cases h
  · exact numF_le _ _ _ (by decide) h
theorem numsL_len : ∀ (f : Nat) (l : List UInt8), (numsF f l).length ≤ f
  | 0, _ => Nat.zero_le _
  | f + 1, [] => Nat.zero_le _
  | f + 1, b :: r => by
    unfold numsF
    split
    · split
      · exact Nat.zero_le _
      · have := numsL_len f ((b :: r).drop ((runD (b :: r)).length + 1))
        simp
        exact this
    · have := numsL_len f r
      omega
set_option maxRecDepth 100000 in
set_option maxHeartbeats 3200000 in
theorem numbers_any (s : ByteArray) (w : World) (hs : s.size ≤ 1000000000) : Calls Tryd.prog 41 #[.string s] w fun e w' => ∃ v, e = .returned v ∧ OwnG 1 encU 23 w' w.heap.size v (numsL s.data.toList) ∧ Below w.heap.size w w' := by
  obtain ⟨R, hR⟩ : ∃ R, numsL s.data.toList = R := ⟨_, rfl⟩
  rw [hR]
  have HR := Lib.hid hR
  obtain ⟨i0, hi0, hz0, hz1, hz2⟩ := info_parts infoU32
  have Hi0 := Lib.hid hi0
  have Hz0 := Lib.hid hz0
  have Hz1 := Lib.hid hz1
  have Hz2 := Lib.hid hz2
  clear hi0 hz0 hz1 hz2 hR
  go_enter Tryd.func41, Tryd.ntmps41
  go_wp2_with fail
  go_loopg [3, 4] (s.size + 1) (fun g t3 t4 wr => ∃ (acc : List Nat) (A : Option Addr) (cap p n : Nat), p + g = s.size + 1 ∧ t3 = .slice A n cap ∧ t4 = .int .i64 p ∧ n = acc.length ∧ n ≤ p ∧ Aside (acc ++ numsL (s.data.toList.drop p) = R) ∧ wr.ownsRow w.heap.size 23 1 (.slice A n cap) n (flatG encU acc) ∧ Below w.heap.size w wr)
  case atStart => exact ⟨[], none, 0, 0, 0, by omega, rfl, rfl, rfl, by omega, by
      show _ = _
      rw [← HR.out]
      rfl, own_nil _ _ _ _, Below.refl _ _⟩
  case round =>
    obtain ⟨acc, A, cap, p, n, hp, rfl, rfl, hn, hnp, hA, hown, hB⟩ := hrel
    have p0 : (0 : Int) ≤ (p : Int) := by omega
    have HO := Lib.hid hown
    have HB := Lib.hid hB
    have HS := Lib.hid hB.size
    have Hn := Lib.hid hn
    clear hown hB hn
    by_cases hlt : p < s.size
    case neg =>
      have p1 : ¬ (p : Int) < (s.size : Int) := by omega
      have hA2 := hA.out
      rw [List.drop_of_length_le (by rw [size_list]; omega), numsL_nil, List.append_nil] at hA2
      have HF := Lib.hid hA2
      clear hA2 hA hlt
      go_wp2_with fail
      go_ret
      rw [← HF.out]
      refine ⟨_, rfl, ?_, HB.out⟩
      unfold OwnG
      rw [← Hn.out]
      exact HO.out
    case pos =>
      have p1 : (p : Int) < (s.size : Int) := by omega
      obtain ⟨g, rfl⟩ : ∃ g, gk = g + 1 := ⟨gk - 1, by omega⟩
      obtain ⟨b, hb⟩ : ∃ b, s[p] = b := ⟨_, rfl⟩
      have hdr := drop_byte hlt
      rw [hb] at hdr
      have hb9 := b.toNat_lt
      cases hD : isD b with
      | false =>
        have hA2 := hA.out
        rw [hdr, numsL_not _ hD] at hA2
        have HF := Lib.hid hA2
        unfold isD at hD
        by_cases hb1 : b.toNat < 48
        · have d1 : (b.toNat : Int) < 48 := by omega
          clear hA2 hA hdr hD hb9
          go_wp2_with fail
          go_roundg g
          case measure => omega
          case rel => exact ⟨acc, A, cap, p + 1, n, by omega, rfl, by go_num, Hn.out, by omega, HF.out, HO.out, HB.out⟩
        · have d1 : ¬ (b.toNat : Int) < 48 := by omega
          have d2 : (b.toNat : Int) > 57 := by
            simp at hD
            have := hD (by omega)
            omega
          clear hA2 hA hdr hD hb9
          go_wp2_with fail
          go_roundg g
          case measure => omega
          case rel => exact ⟨acc, A, cap, p + 1, n, by omega, rfl, by go_num, Hn.out, by omega, HF.out, HO.out, HB.out⟩
      | true =>
        have HD := Lib.hid hD
        have hbd := hD
        unfold isD at hbd
        simp only [Bool.and_eq_true, decide_eq_true_eq] at hbd
        have d1 : ¬ (b.toNat : Int) < 48 := by omega
        have d2 : ¬ (b.toNat : Int) > 57 := by omega
        have hrl := runD_le (s.data.toList.drop p)
        rw [List.length_drop, size_list] at hrl
        have hr1 : 1 ≤ (runD (s.data.toList.drop p)).length := by
          rw [hdr]
          unfold runD
          rw [List.takeWhile_cons, if_pos hD]
          simp
        obtain ⟨q, hq⟩ : ∃ q, p + (runD (s.data.toList.drop p)).length = q := ⟨_, rfl⟩
        have hq9 : p + 1 ≤ q ∧ q ≤ s.size := by omega
        have HE := Lib.hid (show p + ((runD (s.data.toList.drop p)).length + 1) = q + 1 by omega)
        have HE3 := Lib.hid hq
        have hex : (s.extract p q).data.toList = runD (s.data.toList.drop p) := by
          rw [extract_list, show q - p = (runD (s.data.toList.drop p)).length from by omega, runD_take]
        have cn := rnum_any (s.extract p q) wr (by rw [hex]; exact runD_digits _) (by rw [ByteArray.size_extract]; omega)
        rw [hex] at cn
        have CN := Lib.hid cn
        have Hdr := Lib.hid hdr
        have hstep : ∀ e (h : e < s.size), p ≤ e → e ≤ q → (isD s[e] = true → e + 1 ≤ q) ∧ (isD s[e] = false → e = q) := by
          intro e h h1 h2
          have h3 : e - p < (s.data.toList.drop p).length := by rw [List.length_drop, size_list]; omega
          have h4 := runD_step (s.data.toList.drop p) (e - p) h3 (by omega)
          have h5 : (s.data.toList.drop p)[e - p] = s[e] := by
            rw [List.getElem_drop]
            have h6 := byte_get s e h
            rw [← h6]
            congr 1
            omega
          rw [h5] at h4
          exact ⟨fun hh => by have := h4.1 hh; omega, fun hh => by have := h4.2 hh; omega⟩
        have HStep := Lib.hid hstep
        clear hD hbd hrl hr1 hex cn hdr hb9 hstep
        clear hq
        have HQ := Lib.hid (show p + 1 ≤ q ∧ q ≤ s.size from hq9)
        have q0 : (0 : Int) ≤ (q : Int) := by omega
        have pq : (p : Int) ≤ (q : Int) := by omega
        have qs : (q : Int) ≤ (s.size : Int) := by omega
        go_wp2_with fail
        go_loopg [5] (runD (s.data.toList.drop p)).length (fun g5 s5 w5 => ∃ e : Nat, e + g5 = q ∧ p ≤ e ∧ s5 = .int .i64 e ∧ wr = w5)
        case atStart => exact ⟨p, by have := HE3.out; omega, by omega, rfl, rfl⟩
        case round =>
          obtain ⟨e, he, hpe, rfl, rfl⟩ := hrel
          have e0 : (0 : Int) ≤ (e : Int) := by omega
          have hes : e ≤ s.size := by have := HQ.out; omega
          have HE5 := Lib.hid he
          have HPE := Lib.hid hpe
          cases gk with
          | zero =>
            have heq : e = q := by omega
            clear he hpe
            subst heq
            by_cases hlt2 : e < s.size
            · have e1 : (e : Int) < (s.size : Int) := by omega
              have hst := (HStep.out e hlt2 (by have := HQ.out; omega) (Nat.le_refl _)).1
              obtain ⟨b2, hb2⟩ : ∃ b, s[e] = b := ⟨_, rfl⟩
              rw [hb2] at hst
              have hnd : isD b2 = false := by
                cases h : isD b2 with
                | false => rfl
                | true => have := hst h; omega
              clear hst
              unfold isD at hnd
              by_cases hb48 : 48 ≤ b2.toNat
              · have d3 : (b2.toNat : Int) ≥ 48 := by omega
                have d4 : ¬ (b2.toNat : Int) ≤ 57 := by
                  simp at hnd
                  have := hnd hb48
                  omega
                clear hnd hb48
                have cn := CN.out
                cases hnum : numR (runD (s.data.toList.drop p)) with
                | none =>
                  have hA2 := hA.out
                  rw [Hdr.out, numsL_bad _ HD.out (by rw [← Hdr.out]; exact hnum), List.append_nil] at hA2
                  have HF := Lib.hid hA2
                  rw [hnum] at cn
                  have Cn := Lib.hid cn
                  clear hA2 cn hnum
                  go_wp2_with fail
                  refine Cn.out.mono ?_
                  rintro e w2 ⟨rfl, rfl⟩
                  go_wp2_with fail
                  go_ret
                  rw [← HF.out]
                  refine ⟨_, rfl, ?_, HB.out⟩
                  unfold OwnG
                  rw [← Hn.out]
                  exact HO.out
                | some v =>
                  have hA2 := hA.out
                  rw [Hdr.out, numsL_run _ HD.out (by rw [← Hdr.out]; exact hnum), ← Hdr.out, List.drop_drop, HE.out] at hA2
                  have HF := Lib.hid hA2
                  rw [hnum] at cn
                  have Cn := Lib.hid (show Calls Tryd.prog 58 #[.string (s.extract p e), .int .u64 4294967295] wr fun e w' => e = .returned (.tuple #[.int .u64 v, .bool true]) ∧ wr = w' from cn)
                  have hvm : v ≤ maxU := numR_le hnum
                  have v0 : (0 : Int) ≤ (v : Int) := by omega
                  have v9 : (v : Int) ≤ 4294967295 := by unfold maxU at hvm; omega
                  have hw : IntKind.u32.wrap (v : Int) = v := IntWalk.u32_in _ (by omega)
                  have HO2 := Lib.hid (show (wr.alloc (.cells #[.int .u32 v] 23)).ownsRow w.heap.size 23 1 (.slice A n cap) n (flatG encU acc) from own_below HO.out ((Below.refl _ wr).alloc (Nat.le_refl _) _))
                  have hx := heap_alloc_new wr (.cells #[.int .u32 v] 23)
                  have hnews : ∀ j u, (flatG encU [v])[j]? = some u → (wr.alloc (.cells #[.int .u32 v] 23)).cell? ((⟨wr.heap.size, 0, none⟩ : Addr).add j) = some u := rs_news (l := [v]) (enc := encU) hx
                  have Hnews := Lib.hid hnews
                  clear hA2 cn hnum hvm hx hnews
                  go_wp2_with fail
                  refine Cn.out.mono ?_
                  rintro e w2 ⟨rfl, rfl⟩
                  go_wp2_with (at_builtin; refine wpList_append_lies _ rfl _ _ 69 rfl w.heap.size 23 i0 (.int .u32 0) 1 4 Tryd.underlying69 Hi0.out Hz0.out Hz1.out Hz2.out rfl (by decide) (.slice A n cap) n (flatG encU acc) rfl HO2.out ⟨wr.heap.size, 0, none⟩ 1 1 (flatG encU [v]) rfl rfl Hnews.out (flatG_one encU_ok _) (by decide) (by simp only [maxLen]; omega) (by omega) (by have := HS.out; simp; omega) (wr.heap.size + 1) (by simp) ?_; intro g2 cap2 w5 hown2 hgrow hat hlt)
                  have Hf := Lib.hid (And.intro hown2 hgrow)
                  clear hown2 hgrow hat hlt
                  go_roundg (s.size - e)
                  case measure => have := HQ.out; omega
                  case rel => exact ⟨acc ++ [v], some ⟨g2, 0, none⟩, cap2, e + 1, n + 1, by have := HQ.out; omega, rfl, by go_num, by rw [List.length_append, ← Hn.out]; rfl, by have := HQ.out; omega, by
                      show _ = _
                      rw [List.append_assoc]
                      exact HF.out, by rw [flatG_append]; exact Hf.out.1, (HB.out.alloc HS.out _).grown Hf.out.2 (by have := HS.out; simp; omega) (fun b e => (own_lt HO.out e).1)⟩
              · have d3 : ¬ (b2.toNat : Int) ≥ 48 := by omega
                clear hnd hb48
                have cn := CN.out
                cases hnum : numR (runD (s.data.toList.drop p)) with
                | none =>
                  have hA2 := hA.out
                  rw [Hdr.out, numsL_bad _ HD.out (by rw [← Hdr.out]; exact hnum), List.append_nil] at hA2
                  have HF := Lib.hid hA2
                  rw [hnum] at cn
                  have Cn := Lib.hid cn
                  clear hA2 cn hnum
                  go_wp2_with fail
                  refine Cn.out.mono ?_
                  rintro e w2 ⟨rfl, rfl⟩
                  go_wp2_with fail
                  go_ret
                  rw [← HF.out]
                  refine ⟨_, rfl, ?_, HB.out⟩
                  unfold OwnG
                  rw [← Hn.out]
                  exact HO.out
                | some v =>
                  have hA2 := hA.out
                  rw [Hdr.out, numsL_run _ HD.out (by rw [← Hdr.out]; exact hnum), ← Hdr.out, List.drop_drop, HE.out] at hA2
                  have HF := Lib.hid hA2
                  rw [hnum] at cn
                  have Cn := Lib.hid (show Calls Tryd.prog 58 #[.string (s.extract p e), .int .u64 4294967295] wr fun e w' => e = .returned (.tuple #[.int .u64 v, .bool true]) ∧ wr = w' from cn)
                  have hvm : v ≤ maxU := numR_le hnum
                  have v0 : (0 : Int) ≤ (v : Int) := by omega
                  have v9 : (v : Int) ≤ 4294967295 := by unfold maxU at hvm; omega
                  have hw : IntKind.u32.wrap (v : Int) = v := IntWalk.u32_in _ (by omega)
                  have HO2 := Lib.hid (show (wr.alloc (.cells #[.int .u32 v] 23)).ownsRow w.heap.size 23 1 (.slice A n cap) n (flatG encU acc) from own_below HO.out ((Below.refl _ wr).alloc (Nat.le_refl _) _))
                  have hx := heap_alloc_new wr (.cells #[.int .u32 v] 23)
                  have hnews : ∀ j u, (flatG encU [v])[j]? = some u → (wr.alloc (.cells #[.int .u32 v] 23)).cell? ((⟨wr.heap.size, 0, none⟩ : Addr).add j) = some u := rs_news (l := [v]) (enc := encU) hx
                  have Hnews := Lib.hid hnews
                  clear hA2 cn hnum hvm hx hnews
                  go_wp2_with fail
                  refine Cn.out.mono ?_
                  rintro e w2 ⟨rfl, rfl⟩
                  go_wp2_with (at_builtin; refine wpList_append_lies _ rfl _ _ 69 rfl w.heap.size 23 i0 (.int .u32 0) 1 4 Tryd.underlying69 Hi0.out Hz0.out Hz1.out Hz2.out rfl (by decide) (.slice A n cap) n (flatG encU acc) rfl HO2.out ⟨wr.heap.size, 0, none⟩ 1 1 (flatG encU [v]) rfl rfl Hnews.out (flatG_one encU_ok _) (by decide) (by simp only [maxLen]; omega) (by omega) (by have := HS.out; simp; omega) (wr.heap.size + 1) (by simp) ?_; intro g2 cap2 w5 hown2 hgrow hat hlt)
                  have Hf := Lib.hid (And.intro hown2 hgrow)
                  clear hown2 hgrow hat hlt
                  go_roundg (s.size - e)
                  case measure => have := HQ.out; omega
                  case rel => exact ⟨acc ++ [v], some ⟨g2, 0, none⟩, cap2, e + 1, n + 1, by have := HQ.out; omega, rfl, by go_num, by rw [List.length_append, ← Hn.out]; rfl, by have := HQ.out; omega, by
                      show _ = _
                      rw [List.append_assoc]
                      exact HF.out, by rw [flatG_append]; exact Hf.out.1, (HB.out.alloc HS.out _).grown Hf.out.2 (by have := HS.out; simp; omega) (fun b e => (own_lt HO.out e).1)⟩
            · have e1 : ¬ (e : Int) < (s.size : Int) := by omega
              have cn := CN.out
              cases hnum : numR (runD (s.data.toList.drop p)) with
              | none =>
                have hA2 := hA.out
                rw [Hdr.out, numsL_bad _ HD.out (by rw [← Hdr.out]; exact hnum), List.append_nil] at hA2
                have HF := Lib.hid hA2
                rw [hnum] at cn
                have Cn := Lib.hid cn
                clear hA2 cn hnum
                go_wp2_with fail
                refine Cn.out.mono ?_
                rintro e w2 ⟨rfl, rfl⟩
                go_wp2_with fail
                go_ret
                rw [← HF.out]
                refine ⟨_, rfl, ?_, HB.out⟩
                unfold OwnG
                rw [← Hn.out]
                exact HO.out
              | some v =>
                have hA2 := hA.out
                rw [Hdr.out, numsL_run _ HD.out (by rw [← Hdr.out]; exact hnum), ← Hdr.out, List.drop_drop, HE.out] at hA2
                have HF := Lib.hid hA2
                rw [hnum] at cn
                have Cn := Lib.hid (show Calls Tryd.prog 58 #[.string (s.extract p e), .int .u64 4294967295] wr fun e w' => e = .returned (.tuple #[.int .u64 v, .bool true]) ∧ wr = w' from cn)
                have hvm : v ≤ maxU := numR_le hnum
                have v0 : (0 : Int) ≤ (v : Int) := by omega
                have v9 : (v : Int) ≤ 4294967295 := by unfold maxU at hvm; omega
                have hw : IntKind.u32.wrap (v : Int) = v := IntWalk.u32_in _ (by omega)
                have HO2 := Lib.hid (show (wr.alloc (.cells #[.int .u32 v] 23)).ownsRow w.heap.size 23 1 (.slice A n cap) n (flatG encU acc) from own_below HO.out ((Below.refl _ wr).alloc (Nat.le_refl _) _))
                have hx := heap_alloc_new wr (.cells #[.int .u32 v] 23)
                have hnews : ∀ j u, (flatG encU [v])[j]? = some u → (wr.alloc (.cells #[.int .u32 v] 23)).cell? ((⟨wr.heap.size, 0, none⟩ : Addr).add j) = some u := rs_news (l := [v]) (enc := encU) hx
                have Hnews := Lib.hid hnews
                clear hA2 cn hnum hvm hx hnews
                go_wp2_with fail
                refine Cn.out.mono ?_
                rintro e w2 ⟨rfl, rfl⟩
                go_wp2_with (at_builtin; refine wpList_append_lies _ rfl _ _ 69 rfl w.heap.size 23 i0 (.int .u32 0) 1 4 Tryd.underlying69 Hi0.out Hz0.out Hz1.out Hz2.out rfl (by decide) (.slice A n cap) n (flatG encU acc) rfl HO2.out ⟨wr.heap.size, 0, none⟩ 1 1 (flatG encU [v]) rfl rfl Hnews.out (flatG_one encU_ok _) (by decide) (by simp only [maxLen]; omega) (by omega) (by have := HS.out; simp; omega) (wr.heap.size + 1) (by simp) ?_; intro g2 cap2 w5 hown2 hgrow hat hlt)
                have Hf := Lib.hid (And.intro hown2 hgrow)
                clear hown2 hgrow hat hlt
                go_roundg (s.size - e)
                case measure => have := HQ.out; omega
                case rel => exact ⟨acc ++ [v], some ⟨g2, 0, none⟩, cap2, e + 1, n + 1, by have := HQ.out; omega, rfl, by go_num, by rw [List.length_append, ← Hn.out]; rfl, by have := HQ.out; omega, by
                    show _ = _
                    rw [List.append_assoc]
                    exact HF.out, by rw [flatG_append]; exact Hf.out.1, (HB.out.alloc HS.out _).grown Hf.out.2 (by have := HS.out; simp; omega) (fun b e => (own_lt HO.out e).1)⟩
          | succ g5 =>
            have hlt2 : e < s.size := by have := HQ.out; omega
            have e1 : (e : Int) < (s.size : Int) := by omega
            have hst := (HStep.out e hlt2 hpe (by omega)).2
            obtain ⟨b2, hb2⟩ : ∃ b, s[e] = b := ⟨_, rfl⟩
            rw [hb2] at hst
            have hnd : isD b2 = true := by
              cases h : isD b2 with
              | true => rfl
              | false => have := hst h; omega
            clear hst
            unfold isD at hnd
            simp only [Bool.and_eq_true, decide_eq_true_eq] at hnd
            have d3 : (b2.toNat : Int) ≥ 48 := by omega
            have d4 : (b2.toNat : Int) ≤ 57 := by omega
            clear hnd he hpe
            go_wp2_with fail
            go_roundg g5
            case measure => omega
            case rel => exact ⟨e + 1, by have := HE5.out; omega, by have := HPE.out; omega, by go_num, rfl⟩
end Go.Proofs.YtckbcmoanadckaaDoor
