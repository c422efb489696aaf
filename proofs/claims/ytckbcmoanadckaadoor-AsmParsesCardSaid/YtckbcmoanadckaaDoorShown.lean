/- An instruction's line: the compiler's. -/
import Derived.Test.YtckbcmoanadckaaDoorForm
import Derived.Deep.RegionHeld3
import Derived.Deep.DeepCutAuto
import Derived.Deep.CutBlock
namespace Go.Proofs.YtckbcmoanadckaaDoor
open Go.RowKit Go.Shelf
set_option linter.unusedVariables false
set_option linter.unusedSimpArgs false

/-- An instruction. -/
structure Ins where
  code : Nat
  jt : Nat
  jf : Nat
  k : Nat
deriving DecidableEq
structure InsOk (i : Ins) : Prop where
  code : i.code ≤ 65535
  jt : i.jt ≤ 255
  jf : i.jf ≤ 255
  k : i.k ≤ 4294967295
def encN (i : Ins) : List Value := [.int .u16 i.code, .int .u8 i.jt, .int .u8 i.jf, .int .u32 i.k]
abbrev aggN (i : Ins) : Value := .agg #[.int .u16 i.code, .int .u8 i.jt, .int .u8 i.jf, .int .u32 i.k]
abbrev objN (i : Ins) : Obj := .cells #[.int .u16 i.code, .int .u8 i.jt, .int .u8 i.jf, .int .u32 i.k] 25
/-- Does a form show all numbers that are not 0? -/
def shownB (f : List UInt8) (i : Ins) : Bool := (i.k == 0 || f.contains 75) && (i.jt == 0 || f.contains 84) && (i.jf == 0 || f.contains 70)
def fillC (i : Ins) (b : UInt8) : List UInt8 := if b = 67 then dcl i.code else if b = 84 then dcl i.jt else if b = 70 then dcl i.jf else if b = 75 then dcl i.k else [b]
def fillL (f : List UInt8) (i : Ins) : List UInt8 := f.flatMap (fillC i)
/-- Which form an instruction has. -/
def formOf (i : Ins) : List UInt8 := if knownB i.code && shownB (formL i.code) i then formL i.code else rawL
def lineL (i : Ins) : List UInt8 := fillL (formOf i) i
theorem count_has (l : List UInt8) (c : UInt8) : decide (0 ≤ Lib.indexByte l c) = l.contains c := by
  rw [Bool.eq_iff_iff, decide_eq_true_eq, List.contains_iff_mem]
  constructor
  · intro h
    obtain ⟨o, ho⟩ := Int.eq_ofNat_of_zero_le h
    obtain ⟨h1, _⟩ := Lib.indexByte_some ho
    exact List.mem_of_getElem? h1
  · intro h
    have h1 := Lib.indexByte_ge l c
    by_cases e : Lib.indexByte l c = -1
    · obtain ⟨k, hk, he⟩ := List.getElem_of_mem h
      exact absurd (by rw [List.getElem?_eq_getElem hk, he]) (Lib.indexByte_none e k)
    · omega
theorem has_any (f : List UInt8) (c : UInt8) (x : Bool) (w : World) (h : f.contains c = x) : Calls Tryd.prog 46 #[.string (bs f), .string ⟨#[c]⟩] w fun e w' => e = .returned (.bool x) ∧ w = w' :=
  (Tryd.strings_Contains_one (bs f) c w).mono fun e w' hh => ⟨by rw [hh.1, count_has, bs_list, h], hh.2.symm⟩
set_option maxRecDepth 100000 in
set_option maxHeartbeats 3200000 in
theorem shown_any (f : List UInt8) (i : Ins) (w : World) : Calls Tryd.prog 23 #[.string (bs f), aggN i] w fun e w' => e = .returned (.bool (shownB f i)) ∧ Below w.heap.size w w' := by
  obtain ⟨c, jt, jf, k⟩ := i
  obtain ⟨a1, ha1⟩ : ∃ x, ((k : Int) == 0) = x := ⟨_, rfl⟩
  obtain ⟨a2, ha2⟩ : ∃ x, ((jt : Int) == 0) = x := ⟨_, rfl⟩
  obtain ⟨a3, ha3⟩ : ∃ x, ((jf : Int) == 0) = x := ⟨_, rfl⟩
  obtain ⟨b1, hb1⟩ : ∃ x, f.contains 75 = x := ⟨_, rfl⟩
  obtain ⟨b2, hb2⟩ : ∃ x, f.contains 84 = x := ⟨_, rfl⟩
  obtain ⟨b3, hb3⟩ : ∃ x, f.contains 70 = x := ⟨_, rfl⟩
  have e0 : ∀ n : Nat, (n == 0) = ((n : Int) == 0) := fun n => by
    rw [Bool.eq_iff_iff]
    simp
  have hres : shownB f ⟨c, jt, jf, k⟩ = ((a1 || b1) && (a2 || b2) && (a3 || b3)) := by
    unfold shownB
    rw [e0, e0, e0, ha1, ha2, ha3, hb1, hb2, hb3]
  rw [hres]
  have c1 := fun w => has_any f 75 b1 w hb1
  have c2 := fun w => has_any f 84 b2 w hb2
  have c3 := fun w => has_any f 70 b3 w hb3
  have C1 := Lib.hid c1
  have C2 := Lib.hid c2
  have C3 := Lib.hid c3
  clear c1 c2 c3 hb1 hb2 hb3 hres e0
  cases a1 with
  | true =>
    cases a2 with
    | true =>
      cases a3 with
      | true =>
        go_enter Tryd.func23, Tryd.ntmps23
        go_wp2_with fail
        go_ret
        exact ⟨by simp, (Below.refl _ _).alloc (Nat.le_refl _) _⟩
      | false =>
        cases b3 with
        | true =>
          go_enter Tryd.func23, Tryd.ntmps23
          go_wp2_with fail
          refine (C3.out _).mono ?_
          rintro e w2 ⟨rfl, rfl⟩
          go_wp2_with fail
          go_ret
          exact ⟨by simp, (Below.refl _ _).alloc (Nat.le_refl _) _⟩
        | false =>
          go_enter Tryd.func23, Tryd.ntmps23
          go_wp2_with fail
          refine (C3.out _).mono ?_
          rintro e w2 ⟨rfl, rfl⟩
          go_wp2_with fail
          go_ret
          exact ⟨by simp, (Below.refl _ _).alloc (Nat.le_refl _) _⟩
    | false =>
      cases b2 with
      | true =>
        cases a3 with
        | true =>
          go_enter Tryd.func23, Tryd.ntmps23
          go_wp2_with fail
          refine (C2.out _).mono ?_
          rintro e w2 ⟨rfl, rfl⟩
          go_wp2_with fail
          go_ret
          exact ⟨by simp, (Below.refl _ _).alloc (Nat.le_refl _) _⟩
        | false =>
          cases b3 with
          | true =>
            go_enter Tryd.func23, Tryd.ntmps23
            go_wp2_with fail
            refine (C2.out _).mono ?_
            rintro e w2 ⟨rfl, rfl⟩
            go_wp2_with fail
            refine (C3.out _).mono ?_
            rintro e w2 ⟨rfl, rfl⟩
            go_wp2_with fail
            go_ret
            exact ⟨by simp, (Below.refl _ _).alloc (Nat.le_refl _) _⟩
          | false =>
            go_enter Tryd.func23, Tryd.ntmps23
            go_wp2_with fail
            refine (C2.out _).mono ?_
            rintro e w2 ⟨rfl, rfl⟩
            go_wp2_with fail
            refine (C3.out _).mono ?_
            rintro e w2 ⟨rfl, rfl⟩
            go_wp2_with fail
            go_ret
            exact ⟨by simp, (Below.refl _ _).alloc (Nat.le_refl _) _⟩
      | false =>
        go_enter Tryd.func23, Tryd.ntmps23
        go_wp2_with fail
        refine (C2.out _).mono ?_
        rintro e w2 ⟨rfl, rfl⟩
        go_wp2_with fail
        go_ret
        exact ⟨by simp, (Below.refl _ _).alloc (Nat.le_refl _) _⟩
  | false =>
    cases b1 with
    | true =>
      cases a2 with
      | true =>
        cases a3 with
        | true =>
          go_enter Tryd.func23, Tryd.ntmps23
          go_wp2_with fail
          refine (C1.out _).mono ?_
          rintro e w2 ⟨rfl, rfl⟩
          go_wp2_with fail
          go_ret
          exact ⟨by simp, (Below.refl _ _).alloc (Nat.le_refl _) _⟩
        | false =>
          cases b3 with
          | true =>
            go_enter Tryd.func23, Tryd.ntmps23
            go_wp2_with fail
            refine (C1.out _).mono ?_
            rintro e w2 ⟨rfl, rfl⟩
            go_wp2_with fail
            refine (C3.out _).mono ?_
            rintro e w2 ⟨rfl, rfl⟩
            go_wp2_with fail
            go_ret
            exact ⟨by simp, (Below.refl _ _).alloc (Nat.le_refl _) _⟩
          | false =>
            go_enter Tryd.func23, Tryd.ntmps23
            go_wp2_with fail
            refine (C1.out _).mono ?_
            rintro e w2 ⟨rfl, rfl⟩
            go_wp2_with fail
            refine (C3.out _).mono ?_
            rintro e w2 ⟨rfl, rfl⟩
            go_wp2_with fail
            go_ret
            exact ⟨by simp, (Below.refl _ _).alloc (Nat.le_refl _) _⟩
      | false =>
        cases b2 with
        | true =>
          cases a3 with
          | true =>
            go_enter Tryd.func23, Tryd.ntmps23
            go_wp2_with fail
            refine (C1.out _).mono ?_
            rintro e w2 ⟨rfl, rfl⟩
            go_wp2_with fail
            refine (C2.out _).mono ?_
            rintro e w2 ⟨rfl, rfl⟩
            go_wp2_with fail
            go_ret
            exact ⟨by simp, (Below.refl _ _).alloc (Nat.le_refl _) _⟩
          | false =>
            cases b3 with
            | true =>
              go_enter Tryd.func23, Tryd.ntmps23
              go_wp2_with fail
              refine (C1.out _).mono ?_
              rintro e w2 ⟨rfl, rfl⟩
              go_wp2_with fail
              refine (C2.out _).mono ?_
              rintro e w2 ⟨rfl, rfl⟩
              go_wp2_with fail
              refine (C3.out _).mono ?_
              rintro e w2 ⟨rfl, rfl⟩
              go_wp2_with fail
              go_ret
              exact ⟨by simp, (Below.refl _ _).alloc (Nat.le_refl _) _⟩
            | false =>
              go_enter Tryd.func23, Tryd.ntmps23
              go_wp2_with fail
              refine (C1.out _).mono ?_
              rintro e w2 ⟨rfl, rfl⟩
              go_wp2_with fail
              refine (C2.out _).mono ?_
              rintro e w2 ⟨rfl, rfl⟩
              go_wp2_with fail
              refine (C3.out _).mono ?_
              rintro e w2 ⟨rfl, rfl⟩
              go_wp2_with fail
              go_ret
              exact ⟨by simp, (Below.refl _ _).alloc (Nat.le_refl _) _⟩
        | false =>
          go_enter Tryd.func23, Tryd.ntmps23
          go_wp2_with fail
          refine (C1.out _).mono ?_
          rintro e w2 ⟨rfl, rfl⟩
          go_wp2_with fail
          refine (C2.out _).mono ?_
          rintro e w2 ⟨rfl, rfl⟩
          go_wp2_with fail
          go_ret
          exact ⟨by simp, (Below.refl _ _).alloc (Nat.le_refl _) _⟩
    | false =>
      go_enter Tryd.func23, Tryd.ntmps23
      go_wp2_with fail
      refine (C1.out _).mono ?_
      rintro e w2 ⟨rfl, rfl⟩
      go_wp2_with fail
      go_ret
      exact ⟨by simp, (Below.refl _ _).alloc (Nat.le_refl _) _⟩
end Go.Proofs.YtckbcmoanadckaaDoor
