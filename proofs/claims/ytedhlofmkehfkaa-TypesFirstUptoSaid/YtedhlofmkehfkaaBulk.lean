/- How many places a slice holds, by its bulk. -/
import Derived.Test.YtedhlofmkehfkaaOpen
namespace Go.Proofs.Ytedhlofmkehfkaa
theorem bulk_one {H : Type} (d : DataW H) : 1 ≤ Rows.uptoBulk d := by
  cases d with
  | lit l => cases l <;> simp [Rows.uptoBulk]
  | _ => simp [Rows.uptoBulk]
theorem bulk_len {H : Type} (l : List (DataW H)) : l.length ≤ Rows.uptoBulkAll l := by
  induction l with
  | nil => simp [Rows.uptoBulkAll]
  | cons x r ih => have := bulk_one x; simp only [Rows.uptoBulkAll, List.length_cons]; omega
theorem bulk_cap {H : Type} {d : DataW H} {cap : Nat} (h : d = .nil ∧ cap = 0 ∨ ∃ es rs, d = .slice es rs ∧ es.length + rs.length = cap) : cap ≤ Rows.uptoBulk d := by
  rcases h with ⟨rfl, rfl⟩ | ⟨es, rs, rfl, rfl⟩
  · omega
  · have h1 := bulk_len es
    have h2 := bulk_len rs
    simp only [Rows.uptoBulk]
    omega
end Go.Proofs.Ytedhlofmkehfkaa
