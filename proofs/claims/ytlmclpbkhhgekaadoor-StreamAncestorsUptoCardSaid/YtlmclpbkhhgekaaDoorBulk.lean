/- What the bound of the second form gives (the seat's own lemmas on bulk, laid for this seat). -/
import Derived.Test.YtlmclpbkhhgekaaDoorRows
set_option linter.unusedVariables false
set_option linter.unusedSimpArgs false
namespace Go.Proofs.YtlmclpbkhhgekaaDoor.bulks

theorem one_le {H : Type} (d : DataW H) : 1 ≤ Rows.uptoBulk d := by
  cases d with
  | lit l => cases l <;> simp [Rows.uptoBulk]
  | nil => simp [Rows.uptoBulk]
  | ptr d => simp [Rows.uptoBulk]
  | slice elems spare => simp [Rows.uptoBulk]
  | agg parts => simp [Rows.uptoBulk]
  | iface t d => simp [Rows.uptoBulk]
  | map entries => simp [Rows.uptoBulk]
  | held h => simp [Rows.uptoBulk]
theorem part_le {H : Type} {d : DataW H} {l : List (DataW H)} (h : d ∈ l) : Rows.uptoBulk d ≤ Rows.uptoBulkAll l := by
  induction l with
  | nil => cases h
  | cons x r ih =>
    simp only [Rows.uptoBulkAll]
    cases List.mem_cons.1 h with
    | inl e => subst e; omega
    | inr e => have := ih e; omega
theorem length_le {H : Type} (l : List (DataW H)) : l.length ≤ Rows.uptoBulkAll l := by
  induction l with
  | nil => simp [Rows.uptoBulkAll]
  | cons x r ih => have := one_le x; simp only [Rows.uptoBulkAll, List.length_cons]; omega
theorem slice_le {H : Type} (elems spare : List (DataW H)) : elems.length + spare.length + 1 ≤ Rows.uptoBulk (.slice elems spare) := by
  have h1 := length_le elems
  have h2 := length_le spare
  simp only [Rows.uptoBulk]
  omega
theorem slice_elems {H : Type} (elems spare : List (DataW H)) : Rows.uptoBulkAll elems + 1 ≤ Rows.uptoBulk (.slice elems spare) := by
  simp only [Rows.uptoBulk]
  omega
theorem slice_part {H : Type} {d : DataW H} {elems spare : List (DataW H)} (h : d ∈ elems) : Rows.uptoBulk d ≤ Rows.uptoBulk (.slice elems spare) := by
  have h1 := part_le h
  have h2 := slice_elems elems spare
  omega
theorem agg_part {H : Type} {d : DataW H} {parts : List (DataW H)} (h : d ∈ parts) : Rows.uptoBulk d ≤ Rows.uptoBulk (.agg parts) := by
  have h1 := part_le h
  simp only [Rows.uptoBulk]
  omega
theorem all_part {H : Type} {d : DataW H} {l : List (DataW H)} {B : Nat} (hb : Rows.uptoBulkAll l ≤ B) (h : d ∈ l) : Rows.uptoBulk d ≤ B := Nat.le_trans (part_le h) hb
theorem string_eq {H : Type} (bytes : List UInt8) : Rows.uptoBulk (DataW.lit (H := H) (.string bytes)) = bytes.length + 1 := by
  simp [Rows.uptoBulk]
end Go.Proofs.YtlmclpbkhhgekaaDoor.bulks
