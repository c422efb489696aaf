/- riddlelaw6.AddrShort: it answers true. -/
import Derived.Test.YtoldhhaplndkcaaDoorAwake
import Derived.Test.YtoldhhaplndkcaaDoorShort
import Derived.BigQuiet
import Derived.Deep.QuietTactic
namespace Go.Proofs.YtoldhhaplndkcaaDoor
open Go.RowKit Go.Shelf Go.Deep
set_option linter.unusedVariables false
set_option linter.unusedSimpArgs false

theorem bytes_app (a b : ByteArray) : (a ++ b).data.toList = a.data.toList ++ b.data.toList := by
  rw [ByteArray.data_append, Array.toList_append]
theorem digs_at {d : Nat} (h : d < 16) : ((⟨#[48, 49, 50, 51, 52, 53, 54, 55, 56, 57, 97, 98, 99, 100, 101, 102]⟩ : ByteArray).extract d (d + 1)).data.toList = [hch d] := by
  have h2 : ∀ k : Fin 16, ((⟨#[48, 49, 50, 51, 52, 53, 54, 55, 56, 57, 97, 98, 99, 100, 101, 102]⟩ : ByteArray).extract k.val (k.val + 1)).data.toList = [hch k.val] := by decide
  exact h2 ⟨d, h⟩
theorem u8_shr4 {x : Nat} (h : x < 256) : ((x : Int) / 16) = ((x / 16 : Nat) : Int) := by omega
theorem u8_and15 {x : Nat} (h : x < 256) : Go.bits .and .u8 (x : Int) 15 = ((x % 16 : Nat) : Int) := by
  have hw : ∀ (n : Int), 0 ≤ n → n < 2 ^ 8 → IntKind.u8.wrap n = n := fun n h₀ h₁ => by rw [IntKind.wrap_u8]; omega
  have := bits_mask .u8 8 (by decide) hw 4 (by decide) (x : Int) (by omega) (by omega)
  rw [show ((15 : Int)) = 2 ^ 4 - 1 from rfl, this]
  omega
set_option maxRecDepth 100000 in
set_option maxHeartbeats 3200000 in
theorem short_law (gs : List Nat) (m : Int) (w : World) (h8 : gs.length = 8) (hg : ∀ g ∈ gs, g < 65536) (hG : Given m w) :
    Calls Tryd.prog 7 #[agg16 (bytesG gs)] w fun e w' => e = .returned (.bool true) ∧ Below w.heap.size w w' := by
  have hx256 := bytes_lt hg
  have pl : (bytesG gs).length = 16 := by rw [bytesG_len]; omega
  obtain ⟨P, hP⟩ : ∃ P, bytesG gs = P := ⟨_, rfl⟩
  have HGS := Lib.hid (And.intro h8 (And.intro hg (And.intro hP hG)))
  rw [hP] at hx256 pl ⊢
  have hA0 : ArrAt T16 (w.alloc (.cells (a16 P) T16)) w.heap.size P := ArrAt.new T16 w P
  have HA0 := Lib.hid hA0
  have HX := Lib.hid hx256
  have PL := Lib.hid pl
  have hB0 : Below w.heap.size w (w.alloc (.cells (a16 P) T16)) := (Below.refl _ w).alloc (Nat.le_refl _) _
  have HB0 := Lib.hid hB0
  clear hx256 hP hG h8 hg hA0 hB0 pl
  go_enter Tryd.func7, Tryd.ntmps7
  go_wp2_with fail
  go_loopg [4, 5] 16 (fun q s4 s5 wr => ∃ (i : Nat) (S : ByteArray), i + q = 16 ∧ s4 = .string S ∧ s5 = .int .i64 i ∧ Aside (S.data.toList = sh4 P i) ∧ ArrAt T16 wr w.heap.size P ∧ Below w.heap.size w wr)
  case atStart => exact ⟨0, ⟨#[]⟩, by omega, rfl, rfl, by
      show _ = _
      rfl, HA0.out, HB0.out⟩
  case round =>
    obtain ⟨i, S, hi, rfl, rfl, hS, hA, hB⟩ := hrel
    have HS := Lib.hid hS.out
    have HA := Lib.hid hA
    have HB := Lib.hid hB
    have i0 : (0 : Int) ≤ (i : Int) := by omega
    clear hS hA hB
    cases gk with
    | succ q =>
      have i1 : (i : Int) < 16 := by omega
      obtain ⟨x, hx⟩ : ∃ x, P[i]? = some x := ⟨_, List.getElem?_eq_getElem (by rw [PL.out]; omega)⟩
      have hx9 := HX.out x (List.mem_of_getElem? hx)
      have c0 := HA.out.cell hx
      have hsz : S.size ≤ 48 := by
        have := sh4_len P i
        rw [← HS.out, size_list] at this
        omega
      obtain ⟨d, hd⟩ : ∃ d : Nat, x / 16 = d := ⟨_, rfl⟩
      obtain ⟨e, he⟩ : ∃ e : Nat, x % 16 = e := ⟨_, rfl⟩
      have q1 : (x : Int) / 16 = (d : Int) := by omega
      have q2 : Go.bits .and .u8 (x : Int) 15 = (e : Int) := by rw [u8_and15 hx9, he]
      have d9 : d < 16 := by omega
      have e9 : e < 16 := by omega
      have d0 : (0 : Int) ≤ (d : Int) := by omega
      have d1 : (d : Int) < 16 := by omega
      have e0 : (0 : Int) ≤ (e : Int) := by omega
      have e1 : (e : Int) < 16 := by omega
      have HXX := Lib.hid (And.intro hx (And.intro hd he))
      clear hx hd he
      by_cases hc : 0 < i ∧ i % 2 = 0
      · have q3 : (0 : Int) < (i : Int) := by omega
        have q4 : ((i : Int) % 2 == 0) = true := by rw [beq_iff_eq]; omega
        have HC := Lib.hid hc
        clear hc
        go_wp2_with fail
        go_quiet (fail)
        go_wp2_with fail
        go_roundg q
        case measure => omega
        case rel =>
          refine ⟨i + 1, _, by omega, rfl, by go_num, ?_, HA.out, belowN HB.out _⟩
          show _ = _
          rw [bytes_app, bytes_app, digs_at d9, digs_at e9, bytes_app, HS.out]
          obtain ⟨k1, k2, k3⟩ := HXX.out
          show _ = sh4 P i ++ ((if 0 < i ∧ i % 2 = 0 then [58] else []) ++ [hch (P.getD i 0 / 16), hch (P.getD i 0 % 16)])
          rw [if_pos HC.out, List.getD_eq_getElem?_getD, k1]
          show _ = sh4 P i ++ ([58] ++ [hch (x / 16), hch (x % 16)])
          rw [k2, k3]
          simp
      · have q3 : (0 : Int) < (i : Int) ∧ ((i : Int) % 2 == 0) = false ∨ ¬ (0 : Int) < (i : Int) := by
          by_cases h0 : 0 < i
          · left
            refine ⟨by omega, ?_⟩
            rw [beq_eq_false_iff_ne]
            intro h
            exact hc ⟨h0, by omega⟩
          · right; omega
        have HC := Lib.hid hc
        clear hc
        rcases q3 with ⟨q3, q4⟩ | q3
        · skip
          go_wp2_with fail
          go_quiet (fail)
          go_wp2_with fail
          go_roundg q
          case measure => omega
          case rel =>
            refine ⟨i + 1, _, by omega, rfl, by go_num, ?_, HA.out, belowN HB.out _⟩
            show _ = _
            rw [bytes_app, bytes_app, digs_at d9, digs_at e9, HS.out]
            obtain ⟨k1, k2, k3⟩ := HXX.out
            show _ = sh4 P i ++ ((if 0 < i ∧ i % 2 = 0 then [58] else []) ++ [hch (P.getD i 0 / 16), hch (P.getD i 0 % 16)])
            rw [if_neg HC.out, List.getD_eq_getElem?_getD, k1]
            show _ = sh4 P i ++ ([] ++ [hch (x / 16), hch (x % 16)])
            rw [k2, k3]
            simp
        · skip
          go_wp2_with fail
          go_quiet (fail)
          go_wp2_with fail
          go_roundg q
          case measure => omega
          case rel =>
            refine ⟨i + 1, _, by omega, rfl, by go_num, ?_, HA.out, belowN HB.out _⟩
            show _ = _
            rw [bytes_app, bytes_app, digs_at d9, digs_at e9, HS.out]
            obtain ⟨k1, k2, k3⟩ := HXX.out
            show _ = sh4 P i ++ ((if 0 < i ∧ i % 2 = 0 then [58] else []) ++ [hch (P.getD i 0 / 16), hch (P.getD i 0 % 16)])
            rw [if_neg HC.out, List.getD_eq_getElem?_getD, k1]
            show _ = sh4 P i ++ ([] ++ [hch (x / 16), hch (x % 16)])
            rw [k2, k3]
            simp
    | zero =>
      have i1 : ¬ (i : Int) < 16 := by omega
      obtain ⟨h8, hg, hP, hG⟩ := HGS.out
      have hi16 : i = 16 := by omega
      have hS16 : S.data.toList = sh4 P 16 := by rw [HS.out, hi16]
      have hpp : p6L S.data.toList = some gs := by rw [hS16, ← hP]; exact p6_four h8 hg
      have hss : S.size ≤ 1048576 := by
        have := sh4_len P 16
        rw [← hS16, size_list] at this
        omega
      have c1 := parse6_any S m wr hss (hG.later HB.out).max
      rw [hpp] at c1
      have C1 := Lib.hid (show Calls Tryd.prog 14 #[.string S] wr fun e w' => e = .returned (.tuple #[agg16 P, .int .i64 0]) ∧ Below wr.heap.size wr w' from by rw [← hP]; exact c1)
      have pr := fun W (hW : Below w.heap.size w W) => print6_any gs W h8 hg (hG.later hW).deb
      rw [hP] at pr
      have PR := Lib.hid pr
      have aw : ∀ W, Below w.heap.size w W → Calls Tryd.prog 13 #[] W fun e w' => e = .returned (.bool true) ∧ Below W.heap.size W w' := fun W hW => awake_any m W (hG.later hW)
      have AW := Lib.hid aw
      have NB := Lib.hid (no_bad h8 hg)
      have GR := Lib.hid (gaps_rows h8)
      have TL := Lib.hid (print6_len h8)
      have H8 := Lib.hid h8
      have HP := Lib.hid hP
      have HG := Lib.hid hg
      clear c1 pr aw hpp hss hS16 hi16 h8 hg hP hG hi HGS
      go_wp2_with fail
      (with_reducible refine C1.out.mono ?_)
      rintro e w2 ⟨rfl, hB2⟩
      have st := run_storeA_new w2 #[.int .u8 0, .int .u8 0, .int .u8 0, .int .u8 0, .int .u8 0, .int .u8 0, .int .u8 0, .int .u8 0, .int .u8 0, .int .u8 0, .int .u8 0, .int .u8 0, .int .u8 0, .int .u8 0, .int .u8 0, .int .u8 0] P rfl PL.out
      have HB2 := Lib.hid (HB.out.trans (hB2.mono HB.out.size))
      obtain ⟨W2, hW2⟩ : ∃ W, w2.alloc (.cells (a16 P) T16) = W := ⟨_, rfl⟩
      have hbb : Below w2.heap.size w2 W2 := by rw [← hW2]; exact (Below.refl _ w2).alloc (Nat.le_refl _) _
      have HA2 := Lib.hid ((HA.out.later hB2).later hbb)
      have HV2 : Hid (ArrAt T16 W2 w2.heap.size P) := Lib.hid (by rw [← hW2]; exact ArrAt.new _ w2 P)
      have HB3 := Lib.hid (HB2.out.trans (hbb.mono HB2.out.size))
      have ld := run_loadA HA2.out PL.out
      clear hB2 hbb
      go_wp2_with fail
      (with_reducible refine (PR.out _ HB3.out).mono ?_)
      rintro e w3 ⟨rfl, hB4⟩
      have HA3 := Lib.hid (HA2.out.later hB4)
      have HV3 := Lib.hid (HV2.out.later hB4)
      have HB4 := Lib.hid (HB3.out.trans (hB4.mono HB3.out.size))
      clear hB4 ld st hW2
      obtain ⟨T, hT⟩ : ∃ T, print6L gs = T := ⟨_, rfl⟩
      rw [hT] at NB GR TL ⊢
      obtain ⟨X, hXe⟩ : ∃ X, bs T = X := ⟨_, rfl⟩
      rw [hXe]
      have HXT : Hid (X.data.toList = T) := Lib.hid (by rw [← hXe, bs_list])
      have HXs : Hid (X.size = T.length) := Lib.hid (by rw [← hXe, bs_size])
      have x39 : X.size ≤ 39 := by have := TL.out; have := HXs.out; omega
      have xa : ∀ (j : Nat) (h : j < X.size), T[j]? = some X[j] := fun j h => by
        rw [← HXT.out, List.getElem?_eq_getElem (by rw [size_list]; exact h)]
        rfl
      have XA := Lib.hid xa
      clear hT hXe xa
      go_wp2_with fail
      go_loopg [9, 10, 11] X.size (fun q s9 s10 s11 wr => ∃ i : Nat, i + q = X.size ∧ s9 = .int .i64 (cntL T i : Nat) ∧ s10 = .int .i64 i ∧ w3 = wr)
      case atStart => exact ⟨0, by omega, rfl, rfl, rfl⟩
      case round =>
        obtain ⟨i, hi, rfl, rfl, rfl⟩ := hrel
        have hcl := cntL_le T i
        obtain ⟨c, hc⟩ : ∃ c, cntL T i = c := ⟨_, rfl⟩
        have HC := Lib.hid hc
        rw [hc] at hcl ⊢
        have cl0 : (0 : Int) ≤ (c : Int) := by omega
        have cl9 : (c : Int) ≤ 39 := by omega
        have i0 : (0 : Int) ≤ (i : Int) := by omega
        clear hc hcl
        cases gk with
        | succ q =>
          have hlt : i < X.size := by omega
          have i1 : (i : Int) < (X.size : Int) := by omega
          have HI := Lib.hid hi
          clear hi
          have hxi := XA.out i hlt
          obtain ⟨b, hb⟩ : ∃ b, X[i] = b := ⟨_, rfl⟩
          rw [hb] at hxi
          have Hxi := Lib.hid hxi
          clear hxi
          rcases Nat.eq_zero_or_pos i with h0 | h0
          · subst h0
            have HBG : Hid (0 = 0 ∨ 0 < 0 ∧ T[0 - 1]? = some 58) := Lib.hid (.inl rfl)
            by_cases hz : b = 48
            · have z1 : ((b.toNat : Int) == 48) = true := by rw [hz]; rfl
              have z2 : ((b.toNat : Int) == 58) = false := by rw [hz]; rfl
              by_cases hn : 0 + 1 < X.size
              · have n1 : ((0 : Nat) : Int) + 1 < (X.size : Int) := by omega
                have n2 : (((0 : Nat) : Int) + 1).toNat = 0 + 1 := by omega
                have hnx := XA.out (0 + 1) hn
                obtain ⟨b', hb'⟩ : ∃ b, X[0 + 1] = b := ⟨_, rfl⟩
                rw [hb'] at hnx
                have hnb := NB.out 0 (by rw [Hxi.out, hz]) HBG.out (by have := HXs.out; omega)
                rw [hnx] at hnb
                have z3 : ((b'.toNat : Int) != 58) = false := by rw [Option.some.inj hnb]; rfl
                clear hnx hnb
                have HN : Hid (cntL T (0 + 1) = c) := Lib.hid (by
                  show cntL T 0 + (if 0 < 0 ∧ T[0]? = some 58 ∧ T[0 - 1]? = some 58 then 1 else 0) = _
                  rw [HC.out, if_neg (fun h => by rw [Hxi.out, hz] at h; exact absurd (Option.some.inj h.2.1) (by decide)), Nat.add_zero])
                clear hz HBG
                go_wp2_with fail
                go_roundg q
                case measure => omega
                case rel => exact ⟨0 + 1, by have := HI.out; omega, by rw [HN.out], by go_num, rfl⟩
              · have n1 : ¬ ((0 : Nat) : Int) + 1 < (X.size : Int) := by omega
                have HN : Hid (cntL T (0 + 1) = c) := Lib.hid (by
                  show cntL T 0 + (if 0 < 0 ∧ T[0]? = some 58 ∧ T[0 - 1]? = some 58 then 1 else 0) = _
                  rw [HC.out, if_neg (fun h => by rw [Hxi.out, hz] at h; exact absurd (Option.some.inj h.2.1) (by decide)), Nat.add_zero])
                clear hz HBG
                go_wp2_with fail
                go_roundg q
                case measure => omega
                case rel => exact ⟨0 + 1, by have := HI.out; omega, by rw [HN.out], by go_num, rfl⟩
            · have z1 : ((b.toNat : Int) == 48) = false := by
                rw [beq_eq_false_iff_ne]
                intro h
                exact hz (UInt8.toNat_inj.1 (by show b.toNat = 48; omega))
              have HN : Hid (cntL T (0 + 1) = c) := Lib.hid (by
                show cntL T 0 + (if 0 < 0 ∧ T[0]? = some 58 ∧ T[0 - 1]? = some 58 then 1 else 0) = _
                rw [HC.out, if_neg (fun h => absurd h.1 (by omega)), Nat.add_zero])
              clear hz HBG
              go_wp2_with fail
              go_roundg q
              case measure => omega
              case rel => exact ⟨0 + 1, by have := HI.out; omega, by rw [HN.out], by go_num, rfl⟩
          · obtain ⟨j, rfl⟩ : ∃ j, i = j + 1 := ⟨i - 1, by omega⟩
            have g0 : (0 : Int) < (j : Int) + 1 := by omega
            have g1 : ((j : Int) == -1) = false := by rw [beq_eq_false_iff_ne]; omega
            have g3 : ((j : Int) + 1 == 0) = false := by rw [beq_eq_false_iff_ne]; omega
            have jl : j < X.size := by omega
            have j1 : (j : Int) < (X.size : Int) := by omega
            have j2 : (0 : Int) ≤ (j : Int) := by omega
            have j3 : ((j : Int) + 1).toNat = j + 1 := by omega
            have hxj := XA.out j jl
            obtain ⟨a, ha⟩ : ∃ a, X[j] = a := ⟨_, rfl⟩
            rw [ha] at hxj
            have Hxj := Lib.hid hxj
            clear hxj
            by_cases h58 : a = 58
            · have a1 : ((a.toNat : Int) == 58) = true := by rw [h58]; rfl
              have HBG : Hid (j + 1 = 0 ∨ 0 < j + 1 ∧ T[j + 1 - 1]? = some 58) := Lib.hid (.inr ⟨by omega, by rw [Nat.add_sub_cancel, Hxj.out, h58]⟩)
              have H58 := Lib.hid h58
              clear h58
              by_cases hz : b = 48
              · have z1 : ((b.toNat : Int) == 48) = true := by rw [hz]; rfl
                have z2 : ((b.toNat : Int) == 58) = false := by rw [hz]; rfl
                by_cases hn : j + 1 + 1 < X.size
                · have n1 : ((j + 1 : Nat) : Int) + 1 < (X.size : Int) := by omega
                  have n2 : (((j + 1 : Nat) : Int) + 1).toNat = j + 1 + 1 := by omega
                  have hnx := XA.out (j + 1 + 1) hn
                  obtain ⟨b', hb'⟩ : ∃ b, X[j + 1 + 1] = b := ⟨_, rfl⟩
                  rw [hb'] at hnx
                  have hnb := NB.out (j + 1) (by rw [Hxi.out, hz]) HBG.out (by have := HXs.out; omega)
                  rw [hnx] at hnb
                  have z3 : ((b'.toNat : Int) != 58) = false := by rw [Option.some.inj hnb]; rfl
                  clear hnx hnb
                  have HN : Hid (cntL T (j + 1 + 1) = c) := Lib.hid (by
                    show cntL T (j + 1) + (if 0 < j + 1 ∧ T[j + 1]? = some 58 ∧ T[j + 1 - 1]? = some 58 then 1 else 0) = _
                    rw [HC.out, if_neg (fun h => by rw [Hxi.out, hz] at h; exact absurd (Option.some.inj h.2.1) (by decide)), Nat.add_zero])
                  clear hz HBG
                  go_wp2_with fail
                  go_roundg q
                  case measure => omega
                  case rel => exact ⟨j + 1 + 1, by have := HI.out; omega, by rw [HN.out], by go_num, rfl⟩
                · have n1 : ¬ ((j + 1 : Nat) : Int) + 1 < (X.size : Int) := by omega
                  have HN : Hid (cntL T (j + 1 + 1) = c) := Lib.hid (by
                    show cntL T (j + 1) + (if 0 < j + 1 ∧ T[j + 1]? = some 58 ∧ T[j + 1 - 1]? = some 58 then 1 else 0) = _
                    rw [HC.out, if_neg (fun h => by rw [Hxi.out, hz] at h; exact absurd (Option.some.inj h.2.1) (by decide)), Nat.add_zero])
                  clear hz HBG
                  go_wp2_with fail
                  go_roundg q
                  case measure => omega
                  case rel => exact ⟨j + 1 + 1, by have := HI.out; omega, by rw [HN.out], by go_num, rfl⟩
              · have z1 : ((b.toNat : Int) == 48) = false := by
                  rw [beq_eq_false_iff_ne]
                  intro h
                  exact hz (UInt8.toNat_inj.1 (by show b.toNat = 48; omega))
                by_cases hb8 : b = 58
                · have z2 : ((b.toNat : Int) == 58) = true := by rw [hb8]; rfl
                  have HN : Hid (cntL T (j + 1 + 1) = c + 1) := Lib.hid (by
                    show cntL T (j + 1) + (if 0 < j + 1 ∧ T[j + 1]? = some 58 ∧ T[j + 1 - 1]? = some 58 then 1 else 0) = _
                    rw [HC.out, if_pos ⟨by omega, by rw [Hxi.out, hb8], by rw [Nat.add_sub_cancel, Hxj.out, H58.out]⟩])
                  clear hz hb8 HBG
                  go_wp2_with fail
                  go_roundg q
                  case measure => omega
                  case rel => exact ⟨j + 1 + 1, by have := HI.out; omega, by rw [HN.out]; go_num, by go_num, rfl⟩
                · have z2 : ((b.toNat : Int) == 58) = false := by
                    rw [beq_eq_false_iff_ne]
                    intro h
                    exact hb8 (UInt8.toNat_inj.1 (by show b.toNat = 58; omega))
                  have HN : Hid (cntL T (j + 1 + 1) = c) := Lib.hid (by
                    show cntL T (j + 1) + (if 0 < j + 1 ∧ T[j + 1]? = some 58 ∧ T[j + 1 - 1]? = some 58 then 1 else 0) = _
                    rw [HC.out, if_neg (fun h => hb8 (by have := h.2.1; rw [Hxi.out] at this; exact Option.some.inj this)), Nat.add_zero])
                  clear hz hb8 HBG
                  go_wp2_with fail
                  go_roundg q
                  case measure => omega
                  case rel => exact ⟨j + 1 + 1, by have := HI.out; omega, by rw [HN.out], by go_num, rfl⟩
            · have a1 : ((a.toNat : Int) == 58) = false := by
                rw [beq_eq_false_iff_ne]
                intro h
                exact h58 (UInt8.toNat_inj.1 (by show a.toNat = 58; omega))
              have hb9 : ((b.toNat : Int) == 58) = true ∨ ((b.toNat : Int) == 58) = false := by cases ((b.toNat : Int) == 58) <;> simp
              have HN : Hid (cntL T (j + 1 + 1) = c) := Lib.hid (by
                show cntL T (j + 1) + (if 0 < j + 1 ∧ T[j + 1]? = some 58 ∧ T[j + 1 - 1]? = some 58 then 1 else 0) = _
                rw [HC.out, if_neg (fun h => h58 (by have := h.2.2; rw [Nat.add_sub_cancel, Hxj.out] at this; exact Option.some.inj this)), Nat.add_zero])
              clear h58
              rcases hb9 with z2 | z2
              all_goals
                go_wp2_with fail
                go_roundg q
                case measure => omega
                case rel => exact ⟨j + 1 + 1, by have := HI.out; omega, by rw [HN.out], by go_num, rfl⟩
        | zero =>
          have i1 : ¬ (i : Int) < (X.size : Int) := by omega
          have HI : Hid (c = rowsL gs 7) := Lib.hid (by rw [← HC.out, show i = T.length from by have := HXs.out; omega]; exact GR.out)
          clear hi HC
          go_wp2_with fail
          go_loopg [12, 13] 7 (fun q s12 s13 wr => ∃ k : Nat, k + q = 7 ∧ s12 = .int .i64 (rowsL gs k : Nat) ∧ s13 = .int .i64 (2 * (k : Int)) ∧ w3 = wr)
          case atStart => exact ⟨0, by omega, rfl, rfl, rfl⟩
          case round =>
            obtain ⟨k, hk, rfl, rfl, rfl⟩ := hrel
            have k0 : (0 : Int) ≤ (k : Int) := by omega
            have k7 : (k : Int) ≤ 7 := by omega
            cases gk with
            | succ q =>
              have HK := Lib.hid hk
              have k1 : 2 * (k : Int) + 3 < 16 := by omega
              obtain ⟨g, hg⟩ : ∃ g, gs[k]? = some g := ⟨_, List.getElem?_eq_getElem (by rw [H8.out]; omega)⟩
              obtain ⟨g', hg'⟩ : ∃ g, gs[k + 1]? = some g := ⟨_, List.getElem?_eq_getElem (by rw [H8.out]; omega)⟩
              have b1 := bytesG_get gs k g hg
              have b2 := bytesG_get gs (k + 1) g' hg'
              rw [HP.out] at b1 b2
              obtain ⟨p, hp⟩ : ∃ p, 2 * k = p := ⟨_, rfl⟩
              rw [show 2 * (k + 1) = p + 2 from by omega] at b2
              rw [hp] at b1
              have z1 : g = 0 ↔ g / 256 = 0 ∧ g % 256 = 0 := by omega
              have z2 : g' = 0 ↔ g' / 256 = 0 ∧ g' % 256 = 0 := by omega
              obtain ⟨y0, hy0⟩ : ∃ y, g / 256 = y := ⟨_, rfl⟩
              obtain ⟨y1, hy1⟩ : ∃ y, g % 256 = y := ⟨_, rfl⟩
              obtain ⟨y2, hy2⟩ : ∃ y, g' / 256 = y := ⟨_, rfl⟩
              obtain ⟨y3, hy3⟩ : ∃ y, g' % 256 = y := ⟨_, rfl⟩
              rw [hy0, hy1] at b1 z1
              rw [hy2, hy3] at b2 z2
              have c0 := HA3.out.cell b1.1
              have c1 := HA3.out.cell b1.2
              have c2 := HA3.out.cell b2.1
              have c3 := HA3.out.cell b2.2
              have e1 : (2 : Int) * (k : Int) = (p : Int) := by omega
              have p0 : (0 : Int) ≤ (p : Int) := by omega
              have p1 : (p : Int) + 3 < 16 := by omega
              have u1 : ((p : Int) + 1).toNat = p + 1 := by omega
              have u2 : ((p : Int) + 2).toNat = p + 2 := by omega
              have u3 : ((p : Int) + 3).toNat = p + 3 := by omega
              have hrow : rowsL gs (k + 1) = if g = 0 ∧ g' = 0 then 1 else rowsL gs k := by
                show (if gs.getD k 0 = 0 ∧ gs.getD (k + 1) 0 = 0 then 1 else rowsL gs k) = _
                rw [List.getD_eq_getElem?_getD, List.getD_eq_getElem?_getD, hg, hg']
                rfl
              simp only [z1, z2] at hrow
              have HR := Lib.hid hrow
              obtain ⟨r, hr⟩ : ∃ r, rowsL gs k = r := ⟨_, rfl⟩
              have HRr := Lib.hid hr
              rw [hr]
              rw [e1]
              have Hp := Lib.hid hp
              clear hg hg' b1 b2 z1 z2 hy0 hy1 hy2 hy3 hrow hr hp hk e1
              by_cases h0 : y0 = 0
              · have t0 : ((y0 : Int) == 0) = true := by rw [beq_iff_eq]; omega
                by_cases h1 : y1 = 0
                · have t1 : ((y1 : Int) == 0) = true := by rw [beq_iff_eq]; omega
                  by_cases h2 : y2 = 0
                  · have t2 : ((y2 : Int) == 0) = true := by rw [beq_iff_eq]; omega
                    by_cases h3 : y3 = 0
                    · have t3 : ((y3 : Int) == 0) = true := by rw [beq_iff_eq]; omega
                      have HN : Hid (rowsL gs (k + 1) = 1) := Lib.hid (by rw [HR.out, if_pos ⟨⟨h0, h1⟩, h2, h3⟩])
                      have H9 : Hid ((2 : Int) * ((k + 1 : Nat) : Int) = (p : Int) + 2) := Lib.hid (by have := Hp.out; omega)
                      clear h0 h1 h2 h3
                      go_wp2_with fail
                      go_roundg q
                      case measure => omega
                      case rel => exact ⟨k + 1, by have := HK.out; omega, by rw [HN.out]; rfl, by rw [H9.out], rfl⟩
                    · have t3 : ((y3 : Int) == 0) = false := by rw [beq_eq_false_iff_ne]; omega
                      have HN : Hid (rowsL gs (k + 1) = r) := Lib.hid (by rw [HR.out, if_neg (fun h => h3 h.2.2), HRr.out])
                      have H9 : Hid ((2 : Int) * ((k + 1 : Nat) : Int) = (p : Int) + 2) := Lib.hid (by have := Hp.out; omega)
                      clear h0 h1 h2 h3
                      go_wp2_with fail
                      go_roundg q
                      case measure => omega
                      case rel => exact ⟨k + 1, by have := HK.out; omega, by rw [HN.out], by rw [H9.out], rfl⟩
                  · have t2 : ((y2 : Int) == 0) = false := by rw [beq_eq_false_iff_ne]; omega
                    have HN : Hid (rowsL gs (k + 1) = r) := Lib.hid (by rw [HR.out, if_neg (fun h => h2 h.2.1), HRr.out])
                    have H9 : Hid ((2 : Int) * ((k + 1 : Nat) : Int) = (p : Int) + 2) := Lib.hid (by have := Hp.out; omega)
                    clear h0 h1 h2
                    go_wp2_with fail
                    go_roundg q
                    case measure => omega
                    case rel => exact ⟨k + 1, by have := HK.out; omega, by rw [HN.out], by rw [H9.out], rfl⟩
                · have t1 : ((y1 : Int) == 0) = false := by rw [beq_eq_false_iff_ne]; omega
                  have HN : Hid (rowsL gs (k + 1) = r) := Lib.hid (by rw [HR.out, if_neg (fun h => h1 h.1.2), HRr.out])
                  have H9 : Hid ((2 : Int) * ((k + 1 : Nat) : Int) = (p : Int) + 2) := Lib.hid (by have := Hp.out; omega)
                  clear h0 h1
                  go_wp2_with fail
                  go_roundg q
                  case measure => omega
                  case rel => exact ⟨k + 1, by have := HK.out; omega, by rw [HN.out], by rw [H9.out], rfl⟩
              · have t0 : ((y0 : Int) == 0) = false := by rw [beq_eq_false_iff_ne]; omega
                have HN : Hid (rowsL gs (k + 1) = r) := Lib.hid (by rw [HR.out, if_neg (fun h => h0 h.1.1), HRr.out])
                have H9 : Hid ((2 : Int) * ((k + 1 : Nat) : Int) = (p : Int) + 2) := Lib.hid (by have := Hp.out; omega)
                clear h0
                go_wp2_with fail
                go_roundg q
                case measure => omega
                case rel => exact ⟨k + 1, by have := HK.out; omega, by rw [HN.out], by rw [H9.out], rfl⟩
            | zero =>
              have k1 : ¬ 2 * (k : Int) + 3 < 16 := by omega
              have hk7 : k = 7 := by omega
              rw [hk7, ← HI.out]
              have k2 : ¬ (2 : Int) * ((7 : Nat) : Int) + 3 < 16 := by omega
              have ld1 := run_loadA HA3.out PL.out
              have ld2 := run_loadA HV3.out PL.out
              have e4 : ∀ W, (Op.equalIn 10000 T16 (.agg (a16 P)) (.agg (a16 P))).run Tryd.prog W = .ok true W := fun W => by
                have := eqIn_a16 W P P PL.out PL.out
                rw [decide_eq_true rfl] at this
                exact this
              have g2 : ((c : Int) == (c : Int)) = true := beq_self_eq_true _
              clear hk hk7 HI
              go_wp2_with fail
              (with_reducible refine (AW.out _ HB4.out).mono ?_)
              rintro e w5 ⟨rfl, hB5⟩
              have HF := Lib.hid (HB4.out.trans (hB5.mono HB4.out.size))
              clear hB5 ld1 ld2
              go_wp2_with fail
              go_ret
              exact ⟨rfl, HF.out⟩
end Go.Proofs.YtoldhhaplndkcaaDoor
