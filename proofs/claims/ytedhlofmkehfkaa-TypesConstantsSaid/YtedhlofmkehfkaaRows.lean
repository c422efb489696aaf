/-
  No cell of these rows narrows 'for every input' (looked for: loops, veiled, ifaces, maps, wideKeys, modest, calm, conditions, laid).
  DERIVED. THE GIVEN ROWS OF THIS SEAT. 8 by the template 'for every input the law returns true; each argument reads behind the call as it read before'; 0 by the template 'total and deterministic' (their statements: YtedhlofmkehfkaaTotals.lean).
  GIVEN WITH THE SEED: the statements are not yours to turn. If you find one false, say at which input.
  Laid BY PROGRAM, IN A SANDBOX (cutbox-rows.mjs): the forced cells as the released guide's own fill.sh prints them over the translation 2dd3dc2e81ae8653… (all of the seat's roots in one cut). By AI agents, Wed Nov 11 2026. No macro, syntax, notation, axiom, sorry.
-/
import Derived.Test.YtedhlofmkehfkaaChecked
import GoSem.Claim
import GoSem.ClaimJoined
import GoSem.ClaimMapViews
import Derived.JoinedTies
import Derived.KernelRfl
namespace Go.Proofs.Ytedhlofmkehfkaa
/- THE CELL 'sum', in the pinned program and in every row, IS THE sha256 OF THE DUMP (.gsa) THAT YtedhlofmkehfkaaProg.lean LOADS. Nothing in Lean hashes anything: it is a label: what it is worth is what the hold of that sum in a sandbox is worth. -/
noncomputable def Try.pinned : Pinned := { name := "ytedhlofmkehfkaa", sum := "2dd3dc2e81ae8653364d582d797aede675cb7e2da656901052b9c22301341593", checked := Try.checked }
namespace Rows
def none {H : Type} : Left H := { results := [], args := [] }

/-- 'riddlelaw12.TypesChecks': WHATEVER THE INPUT: true; the input reads as it did. -/
def typesChecksSpec : ChangeSpec := { name := "typesChecks", fn := fun _ => fun
  | [d] => { results := [.lit (.bool true)], args := [d] }
  | _ => none }
def typesChecksRow : OpenClaim := { program := "ytedhlofmkehfkaa", sum := "2dd3dc2e81ae8653364d582d797aede675cb7e2da656901052b9c22301341593", func := "riddle/riddlelaw12.TypesChecks", spec := "typesChecks", unfollowed := true, recurses := true, apart := false }
def TypesChecksSaid : Prop := typesChecksRow.holds Try.pinned (OpenSpec.ofChange typesChecksSpec)

/-- ITS FALSE NEIGHBOUR: 'it returns false'. Refute it at one input. -/
def typesChecksWrong : ChangeSpec := { name := "typesChecks", fn := fun _ => fun
  | [d] => { results := [.lit (.bool false)], args := [d] }
  | _ => none }
def TypesChecksWrongFalsely : Prop := typesChecksRow.holds Try.pinned (OpenSpec.ofChange typesChecksWrong)

/-- 'riddlelaw12.TypesConstants': WHATEVER THE INPUT: true; the input reads as it did. -/
def typesConstantsSpec : ChangeSpec := { name := "typesConstants", fn := fun _ => fun
  | [d] => { results := [.lit (.bool true)], args := [d] }
  | _ => none }
def typesConstantsRow : OpenClaim := { program := "ytedhlofmkehfkaa", sum := "2dd3dc2e81ae8653364d582d797aede675cb7e2da656901052b9c22301341593", func := "riddle/riddlelaw12.TypesConstants", spec := "typesConstants", unfollowed := true, recurses := true, apart := false }
def TypesConstantsSaid : Prop := typesConstantsRow.holds Try.pinned (OpenSpec.ofChange typesConstantsSpec)

/-- ITS FALSE NEIGHBOUR: 'it returns false'. Refute it at one input. -/
def typesConstantsWrong : ChangeSpec := { name := "typesConstants", fn := fun _ => fun
  | [d] => { results := [.lit (.bool false)], args := [d] }
  | _ => none }
def TypesConstantsWrongFalsely : Prop := typesConstantsRow.holds Try.pinned (OpenSpec.ofChange typesConstantsWrong)

/-- 'riddlelaw12.TypesParts': WHATEVER THE INPUT: true; the input reads as it did. -/
def typesPartsSpec : ChangeSpec := { name := "typesParts", fn := fun _ => fun
  | [d] => { results := [.lit (.bool true)], args := [d] }
  | _ => none }
def typesPartsRow : OpenClaim := { program := "ytedhlofmkehfkaa", sum := "2dd3dc2e81ae8653364d582d797aede675cb7e2da656901052b9c22301341593", func := "riddle/riddlelaw12.TypesParts", spec := "typesParts", unfollowed := true, recurses := true, apart := false }
def TypesPartsSaid : Prop := typesPartsRow.holds Try.pinned (OpenSpec.ofChange typesPartsSpec)

/-- ITS FALSE NEIGHBOUR: 'it returns false'. Refute it at one input. -/
def typesPartsWrong : ChangeSpec := { name := "typesParts", fn := fun _ => fun
  | [d] => { results := [.lit (.bool false)], args := [d] }
  | _ => none }
def TypesPartsWrongFalsely : Prop := typesPartsRow.holds Try.pinned (OpenSpec.ofChange typesPartsWrong)

/-- 'riddlelaw12.TypesWhole': WHATEVER THE INPUT: true; the input reads as it did. -/
def typesWholeSpec : ChangeSpec := { name := "typesWhole", fn := fun _ => fun
  | [d] => { results := [.lit (.bool true)], args := [d] }
  | _ => none }
def typesWholeRow : OpenClaim := { program := "ytedhlofmkehfkaa", sum := "2dd3dc2e81ae8653364d582d797aede675cb7e2da656901052b9c22301341593", func := "riddle/riddlelaw12.TypesWhole", spec := "typesWhole", unfollowed := true, recurses := true, apart := false }
def TypesWholeSaid : Prop := typesWholeRow.holds Try.pinned (OpenSpec.ofChange typesWholeSpec)

/-- ITS FALSE NEIGHBOUR: 'it returns false'. Refute it at one input. -/
def typesWholeWrong : ChangeSpec := { name := "typesWhole", fn := fun _ => fun
  | [d] => { results := [.lit (.bool false)], args := [d] }
  | _ => none }
def TypesWholeWrongFalsely : Prop := typesWholeRow.holds Try.pinned (OpenSpec.ofChange typesWholeWrong)

/-- 'riddlelaw12.TypesJoins': WHATEVER THE INPUT: true; the input reads as it did. -/
def typesJoinsSpec : ChangeSpec := { name := "typesJoins", fn := fun _ => fun
  | [d1, d2] => { results := [.lit (.bool true)], args := [d1, d2] }
  | _ => none }
def typesJoinsRow : OpenClaim := { program := "ytedhlofmkehfkaa", sum := "2dd3dc2e81ae8653364d582d797aede675cb7e2da656901052b9c22301341593", func := "riddle/riddlelaw12.TypesJoins", spec := "typesJoins", unfollowed := true, recurses := true, apart := false }
def TypesJoinsSaid : Prop := typesJoinsRow.holds Try.pinned (OpenSpec.ofChange typesJoinsSpec)

/-- ITS FALSE NEIGHBOUR: 'it returns false'. Refute it at one input. -/
def typesJoinsWrong : ChangeSpec := { name := "typesJoins", fn := fun _ => fun
  | [d1, d2] => { results := [.lit (.bool false)], args := [d1, d2] }
  | _ => none }
def TypesJoinsWrongFalsely : Prop := typesJoinsRow.holds Try.pinned (OpenSpec.ofChange typesJoinsWrong)

/-- 'riddlelaw12.TypesNumbers': WHATEVER THE INPUT: true; the input reads as it did. -/
def typesNumbersSpec : ChangeSpec := { name := "typesNumbers", fn := fun _ => fun
  | [d1, d2, d3] => { results := [.lit (.bool true)], args := [d1, d2, d3] }
  | _ => none }
def typesNumbersRow : OpenClaim := { program := "ytedhlofmkehfkaa", sum := "2dd3dc2e81ae8653364d582d797aede675cb7e2da656901052b9c22301341593", func := "riddle/riddlelaw12.TypesNumbers", spec := "typesNumbers", unfollowed := true, recurses := true, apart := false }
def TypesNumbersSaid : Prop := typesNumbersRow.holds Try.pinned (OpenSpec.ofChange typesNumbersSpec)

/-- ITS FALSE NEIGHBOUR: 'it returns false'. Refute it at one input. -/
def typesNumbersWrong : ChangeSpec := { name := "typesNumbers", fn := fun _ => fun
  | [d1, d2, d3] => { results := [.lit (.bool false)], args := [d1, d2, d3] }
  | _ => none }
def TypesNumbersWrongFalsely : Prop := typesNumbersRow.holds Try.pinned (OpenSpec.ofChange typesNumbersWrong)

/-- 'riddlelaw12.TypesSpoilt': WHATEVER THE INPUT: true; the input reads as it did. -/
def typesSpoiltSpec : ChangeSpec := { name := "typesSpoilt", fn := fun _ => fun
  | [d1, d2, d3] => { results := [.lit (.bool true)], args := [d1, d2, d3] }
  | _ => none }
def typesSpoiltRow : OpenClaim := { program := "ytedhlofmkehfkaa", sum := "2dd3dc2e81ae8653364d582d797aede675cb7e2da656901052b9c22301341593", func := "riddle/riddlelaw12.TypesSpoilt", spec := "typesSpoilt", unfollowed := true, recurses := true, apart := false }
def TypesSpoiltSaid : Prop := typesSpoiltRow.holds Try.pinned (OpenSpec.ofChange typesSpoiltSpec)

/-- ITS FALSE NEIGHBOUR: 'it returns false'. Refute it at one input. -/
def typesSpoiltWrong : ChangeSpec := { name := "typesSpoilt", fn := fun _ => fun
  | [d1, d2, d3] => { results := [.lit (.bool false)], args := [d1, d2, d3] }
  | _ => none }
def TypesSpoiltWrongFalsely : Prop := typesSpoiltRow.holds Try.pinned (OpenSpec.ofChange typesSpoiltWrong)

/-- 'riddlelaw12.TypesFirst': WHATEVER THE INPUT: true; the input reads as it did. -/
def typesFirstSpec : ChangeSpec := { name := "typesFirst", fn := fun _ => fun
  | [d1, d2] => { results := [.lit (.bool true)], args := [d1, d2] }
  | _ => none }
def typesFirstRow : OpenClaim := { program := "ytedhlofmkehfkaa", sum := "2dd3dc2e81ae8653364d582d797aede675cb7e2da656901052b9c22301341593", func := "riddle/riddlelaw12.TypesFirst", spec := "typesFirst", unfollowed := true, recurses := true, apart := false }
def TypesFirstSaid : Prop := typesFirstRow.holds Try.pinned (OpenSpec.ofChange typesFirstSpec)

/-- ITS FALSE NEIGHBOUR: 'it returns false'. Refute it at one input. -/
def typesFirstWrong : ChangeSpec := { name := "typesFirst", fn := fun _ => fun
  | [d1, d2] => { results := [.lit (.bool false)], args := [d1, d2] }
  | _ => none }
def TypesFirstWrongFalsely : Prop := typesFirstRow.holds Try.pinned (OpenSpec.ofChange typesFirstWrong)

/- THE SECOND FORM. 'bulk': how many values and letters a reading holds, each counted each time it is reached (what is shared counts as often as it is met; a slice's spare places count too). A statement '..UptoSaid' is the law's where the arguments, and the package variables that the reading takes, are together of bulk at most 1048576: NARROWER than '..Said'. Prove '..Said' where nothing that the law and all that it calls make is longer than what came in: it says more and counts as full. Else prove '..UptoSaid'. A law counts once. -/
mutual
def uptoBulk {H : Type} : DataW H → Nat
  | .lit (.string bytes) => bytes.length + 1
  | .lit _ => 1
  | .nil => 1
  | .ptr d => uptoBulk d + 1
  | .slice elems spare => uptoBulkAll elems + uptoBulkAll spare + 1
  | .agg parts => uptoBulkAll parts + 1
  | .iface _ d => uptoBulk d + 1
  | .map entries => uptoBulkEntries entries + 1
  | .held _ => 1
def uptoBulkAll {H : Type} : List (DataW H) → Nat
  | [] => 0
  | d :: r => uptoBulk d + uptoBulkAll r
def uptoBulkEntries {H : Type} : List (Lit × DataW H) → Nat
  | [] => 0
  | x :: r => uptoBulkEntry x + uptoBulkEntries r
def uptoBulkEntry {H : Type} : Lit × DataW H → Nat
  | (.string bytes, d) => bytes.length + uptoBulk d + 1
  | (_, d) => uptoBulk d + 1
 end
def uptoSmall : (H : Type) → List (DataW H) → Bool := fun _ ds => decide (uptoBulkAll ds ≤ 1048576)
def OpenSpec.upto (s : _root_.Go.ChangeSpec) : _root_.Go.OpenSpec := { _root_.Go.OpenSpec.ofChange s with cond := some uptoSmall }

/-- 'riddlelaw12.TypesChecks', WHERE WHAT IT READS IS OF BULK AT MOST 1048576: true; the input reads as it did. -/
def typesChecksUptoRow : OpenClaim := { program := "ytedhlofmkehfkaa", sum := "2dd3dc2e81ae8653364d582d797aede675cb7e2da656901052b9c22301341593", func := "riddle/riddlelaw12.TypesChecks", spec := "typesChecks", unfollowed := true, recurses := true, apart := false, narrowed := true }
def TypesChecksUptoSaid : Prop := typesChecksUptoRow.holds Try.pinned (OpenSpec.upto typesChecksSpec)

/-- 'riddlelaw12.TypesConstants', WHERE WHAT IT READS IS OF BULK AT MOST 1048576: true; the input reads as it did. -/
def typesConstantsUptoRow : OpenClaim := { program := "ytedhlofmkehfkaa", sum := "2dd3dc2e81ae8653364d582d797aede675cb7e2da656901052b9c22301341593", func := "riddle/riddlelaw12.TypesConstants", spec := "typesConstants", unfollowed := true, recurses := true, apart := false, narrowed := true }
def TypesConstantsUptoSaid : Prop := typesConstantsUptoRow.holds Try.pinned (OpenSpec.upto typesConstantsSpec)

/-- 'riddlelaw12.TypesParts', WHERE WHAT IT READS IS OF BULK AT MOST 1048576: true; the input reads as it did. -/
def typesPartsUptoRow : OpenClaim := { program := "ytedhlofmkehfkaa", sum := "2dd3dc2e81ae8653364d582d797aede675cb7e2da656901052b9c22301341593", func := "riddle/riddlelaw12.TypesParts", spec := "typesParts", unfollowed := true, recurses := true, apart := false, narrowed := true }
def TypesPartsUptoSaid : Prop := typesPartsUptoRow.holds Try.pinned (OpenSpec.upto typesPartsSpec)

/-- 'riddlelaw12.TypesWhole', WHERE WHAT IT READS IS OF BULK AT MOST 1048576: true; the input reads as it did. -/
def typesWholeUptoRow : OpenClaim := { program := "ytedhlofmkehfkaa", sum := "2dd3dc2e81ae8653364d582d797aede675cb7e2da656901052b9c22301341593", func := "riddle/riddlelaw12.TypesWhole", spec := "typesWhole", unfollowed := true, recurses := true, apart := false, narrowed := true }
def TypesWholeUptoSaid : Prop := typesWholeUptoRow.holds Try.pinned (OpenSpec.upto typesWholeSpec)

/-- 'riddlelaw12.TypesJoins', WHERE WHAT IT READS IS OF BULK AT MOST 1048576: true; the input reads as it did. -/
def typesJoinsUptoRow : OpenClaim := { program := "ytedhlofmkehfkaa", sum := "2dd3dc2e81ae8653364d582d797aede675cb7e2da656901052b9c22301341593", func := "riddle/riddlelaw12.TypesJoins", spec := "typesJoins", unfollowed := true, recurses := true, apart := false, narrowed := true }
def TypesJoinsUptoSaid : Prop := typesJoinsUptoRow.holds Try.pinned (OpenSpec.upto typesJoinsSpec)

/-- 'riddlelaw12.TypesNumbers', WHERE WHAT IT READS IS OF BULK AT MOST 1048576: true; the input reads as it did. -/
def typesNumbersUptoRow : OpenClaim := { program := "ytedhlofmkehfkaa", sum := "2dd3dc2e81ae8653364d582d797aede675cb7e2da656901052b9c22301341593", func := "riddle/riddlelaw12.TypesNumbers", spec := "typesNumbers", unfollowed := true, recurses := true, apart := false, narrowed := true }
def TypesNumbersUptoSaid : Prop := typesNumbersUptoRow.holds Try.pinned (OpenSpec.upto typesNumbersSpec)

/-- 'riddlelaw12.TypesSpoilt', WHERE WHAT IT READS IS OF BULK AT MOST 1048576: true; the input reads as it did. -/
def typesSpoiltUptoRow : OpenClaim := { program := "ytedhlofmkehfkaa", sum := "2dd3dc2e81ae8653364d582d797aede675cb7e2da656901052b9c22301341593", func := "riddle/riddlelaw12.TypesSpoilt", spec := "typesSpoilt", unfollowed := true, recurses := true, apart := false, narrowed := true }
def TypesSpoiltUptoSaid : Prop := typesSpoiltUptoRow.holds Try.pinned (OpenSpec.upto typesSpoiltSpec)

/-- 'riddlelaw12.TypesFirst', WHERE WHAT IT READS IS OF BULK AT MOST 1048576: true; the input reads as it did. -/
def typesFirstUptoRow : OpenClaim := { program := "ytedhlofmkehfkaa", sum := "2dd3dc2e81ae8653364d582d797aede675cb7e2da656901052b9c22301341593", func := "riddle/riddlelaw12.TypesFirst", spec := "typesFirst", unfollowed := true, recurses := true, apart := false, narrowed := true }
def TypesFirstUptoSaid : Prop := typesFirstUptoRow.holds Try.pinned (OpenSpec.upto typesFirstSpec)

end Rows
end Go.Proofs.Ytedhlofmkehfkaa
