/- What the bound of the second form gives (the seat's own lemmas on bulk, laid for this seat). -/
import Derived.Test.YtlmclpbkhhgekaaDoorRows
import Derived.Test.YtlmclpbkhhgekaaDoorOpen
import Derived.Test.YtlmclpbkhhgekaaDoorRuleMem
set_option linter.unusedVariables false
set_option linter.unusedSimpArgs false
namespace Go.Proofs.YtlmclpbkhhgekaaDoor.bulks

theorem one_le {H : Type} (d : DataW H) : 1 ≤ Rows.uptoBulk d := by
  cases d with
  | lit l => cases l <;> simp [Rows.uptoBulk]
  | nil => simp [Rows.uptoBulk]
  | ptr d => simp [Rows.uptoBulk]
  | slice elems spare => simp [Rows.uptoBulk]
  | agg parts => simp [Rows.uptoBulk]
  | iface t d => simp [Rows.uptoBulk]
  | map entries => simp [Rows.uptoBulk]
  | held h => simp [Rows.uptoBulk]
theorem part_le {H : Type} {d : DataW H} {l : List (DataW H)} (h : d ∈ l) : Rows.uptoBulk d ≤ Rows.uptoBulkAll l := by
  induction l with
  | nil => cases h
  | cons x r ih =>
    simp only [Rows.uptoBulkAll]
    cases List.mem_cons.1 h with
    | inl e => subst e; omega
    | inr e => have := ih e; omega
theorem length_le {H : Type} (l : List (DataW H)) : l.length ≤ Rows.uptoBulkAll l := by
  induction l with
  | nil => simp [Rows.uptoBulkAll]
  | cons x r ih => have := one_le x; simp only [Rows.uptoBulkAll, List.length_cons]; omega
theorem slice_le {H : Type} (elems spare : List (DataW H)) : elems.length + spare.length + 1 ≤ Rows.uptoBulk (.slice elems spare) := by
  have h1 := length_le elems
  have h2 := length_le spare
  simp only [Rows.uptoBulk]
  omega
theorem slice_elems {H : Type} (elems spare : List (DataW H)) : Rows.uptoBulkAll elems + 1 ≤ Rows.uptoBulk (.slice elems spare) := by
  simp only [Rows.uptoBulk]
  omega
theorem slice_part {H : Type} {d : DataW H} {elems spare : List (DataW H)} (h : d ∈ elems) : Rows.uptoBulk d ≤ Rows.uptoBulk (.slice elems spare) := by
  have h1 := part_le h
  have h2 := slice_elems elems spare
  omega
theorem agg_part {H : Type} {d : DataW H} {parts : List (DataW H)} (h : d ∈ parts) : Rows.uptoBulk d ≤ Rows.uptoBulk (.agg parts) := by
  have h1 := part_le h
  simp only [Rows.uptoBulk]
  omega
theorem all_part {H : Type} {d : DataW H} {l : List (DataW H)} {B : Nat} (hb : Rows.uptoBulkAll l ≤ B) (h : d ∈ l) : Rows.uptoBulk d ≤ B := Nat.le_trans (part_le h) hb
theorem string_eq {H : Type} (bytes : List UInt8) : Rows.uptoBulk (DataW.lit (H := H) (.string bytes)) = bytes.length + 1 := by
  simp [Rows.uptoBulk]
end Go.Proofs.YtlmclpbkhhgekaaDoor.bulks
set_option linter.unusedVariables false
set_option linter.unusedSimpArgs false
namespace Go.Proofs.YtlmclpbkhhgekaaDoor
open Go Go.ChangeShapes Go.WideShapes Go.RowKit Go.Deep Sy
section
variable {H : Type} {enc : TypeId × Value → H} {w : World}
set_option maxRecDepth 20000 in
theorem open_strU {fuel : Nat} {cs : List Value} {x : DataW H × List MemPlace} (h : DataW.trod enc Tryd.prog w 0 (fun _ => true) true fuel 31 cs = some x) (hb : Rows.uptoBulk x.1 ≤ 1048576) :
    ∃ A ls c, cs = [.slice A (List.length ls) c] ∧ ls.length ≤ c ∧ c ≤ 140737488355328 ∧ StrsU w A ls := by
  rcases open_strs u_strs u_str c_str h with ⟨rfl, rfl⟩ | ⟨a, len, cap, m, Sx, rfl, _, hl, hm, hmm, rfl, hx⟩
  · exact ⟨none, [], 0, rfl, Nat.le_refl _, by decide, by simp, (fun l hl => by cases hl), (fun h0 => absurd h0 (Nat.lt_irrefl _))⟩
  · have hmc : m = cap := hmm
    subst hmc
    have hs := bulks.slice_le ((List.range len).map fun i => DataW.lit (H := H) (.string (Sx i).data.toList)) ((List.range (m - len)).map fun j => .lit (.string (Sx (len + j)).data.toList))
    simp only [List.length_map, List.length_range] at hs
    have heach : ∀ i, i < len → (Sx i).data.toList.length ≤ 1048576 := fun i hi => by
      have h1 := bulks.slice_part (spare := (List.range (m - len)).map fun j => DataW.lit (H := H) (.string (Sx (len + j)).data.toList)) (List.mem_map.2 ⟨i, List.mem_range.2 hi, rfl⟩ : DataW.lit (H := H) (.string (Sx i).data.toList) ∈ (List.range len).map fun i => DataW.lit (H := H) (.string (Sx i).data.toList))
      rw [bulks.string_eq] at h1
      have h2 := Nat.le_trans h1 hb
      omega
    have hcl : m ≤ 1048576 := by
      have h2 := Nat.le_trans hs hb
      omega
    refine ⟨some a, (List.range len).map fun i => (Sx i).data.toList, m, by simp, by simpa using hl, by omega, by simp; omega, fun l hl2 => ?_, fun h0 => ?_⟩
    · obtain ⟨i, hi, rfl⟩ := List.mem_map.1 hl2
      exact heach i (List.mem_range.1 hi)
    · have h0' : 0 < len := by simpa using h0
      obtain ⟨q1, q2⟩ := cell_lt (hx 0 (by omega)).1
      obtain ⟨ab, ao, asp⟩ := a
      have q3 : asp = none := q2
      subst q3
      refine ⟨ab, ao, rfl, q1, fun k l hk => ?_⟩
      rw [List.getElem?_map] at hk
      obtain ⟨i, hi, rfl⟩ := Option.map_eq_some_iff.1 hk
      obtain ⟨hlt, he⟩ := List.getElem?_eq_some_iff.1 hi
      rw [List.getElem_range] at he
      subst he
      rw [List.length_range] at hlt
      have := (hx k (by omega)).1
      rw [add_plain] at this
      rw [this, bs_eta]

set_option maxRecDepth 20000 in
theorem open_patU {fuel : Nat} {cs : List Value} {x : DataW H × List MemPlace} (h : DataW.trod enc Tryd.prog w 0 (fun _ => true) true fuel 33 cs = some x) (hb : Rows.uptoBulk x.1 ≤ 1048576) :
    ∃ (p : Pat) (A : Option Addr) (c : Nat), cs = [.slice A p.parts.length c, .bool p.rest] ∧ p.parts.length ≤ c ∧ c ≤ 140737488355328 ∧ StrsU w A p.parts := by
  obtain ⟨y0, y1, n, rfl, hlen, h0, h1⟩ := trod_struct2 Tryd.underlying33 h
  rw [c_pat] at hlen
  match cs, hlen with
  | [c0, c1], _ =>
    have e0 : DataW.trod enc Tryd.prog w 0 (fun _ => true) true n 31 [c0] = some y0 := h0
    have e1 : DataW.trod enc Tryd.prog w 0 (fun _ => true) true n 4 [c1] = some y1 := h1
    obtain ⟨A, ls, c, g1, g2, g3, g4⟩ := open_strU e0 (Nat.le_trans (bulks.agg_part (by simp)) hb)
    obtain ⟨r, g5, _⟩ := DataW.trod_bool u_bool e1
    simp only [List.cons.injEq, and_true] at g1 g5
    subst g1
    subst g5
    exact ⟨⟨ls, r⟩, A, c, rfl, g2, g3, g4⟩

end
end Go.Proofs.YtlmclpbkhhgekaaDoor
