/- Plain laws: a line that is none, behind some that are. -/
import Derived.Test.YtckbcmoanadckaaDoorBackL
namespace Go.Proofs.YtckbcmoanadckaaDoor
set_option linter.unusedVariables false
set_option linter.unusedSimpArgs false

theorem parse_bad {ps : List Ins} {bad t : List UInt8} (hp : ∀ i ∈ ps, InsOk i) (hl : ps.length ≤ 200) (h10 : (10 : UInt8) ∉ bad) (hb : readL (rowsN 256) bad = none) (hz : (printL ps ++ bad).length + t.length < 1048576) :
    parseL (printL ps ++ bad ++ [10] ++ t) = ⟨[], ps.length + 1, 31⟩ := by
  have h1 : (printL ps ++ bad ++ [10] ++ t).length ≤ 1048576 := by
    rw [List.length_append, List.length_append, List.length_singleton]
    omega
  unfold parseL
  rw [if_neg (by omega)]
  have e : printL ps ++ bad ++ [10] ++ t = printL ps ++ (bad ++ 10 :: t) := by simp
  rw [e, linesL_print, linesL_lf _ _ h10, parseLs_lines ps _ 1 [] hp (by omega), parseLs_bad (by omega) _ _ hb]
  congr 1
  omega
end Go.Proofs.YtckbcmoanadckaaDoor
