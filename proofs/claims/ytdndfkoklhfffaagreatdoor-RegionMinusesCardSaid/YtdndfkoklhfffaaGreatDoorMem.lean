/- What the search of the least path keeps of memory: the row of components, a counter's cell, a set's cell. -/
import Derived.Test.YtdndfkoklhfffaaGreatDoorCalm
import Derived.OneCell
import Derived.Laws.Rows
import Derived.Deep.OwnRows
set_option linter.unusedVariables false
set_option linter.unusedSimpArgs false
namespace Go.Proofs.YtdndfkoklhfffaaGreatDoor
open Go Go.RowKit Sy

/-- Block B is a row of n strings of which the first are ls. -/
def RowAt (w : World) (B n : Nat) (ls : List Str) : Prop := ∃ cs : Array Value, w.heap[B]? = some (.cells cs 9 (0, 0)) ∧ cs.size = n ∧ ∀ (j : Nat) (l : Str), ls[j]? = some l → cs[j]? = some (Value.string (bs l))

theorem RowAt.keep {w w' : World} {B n : Nat} {ls : List Str} (h : RowAt w B n ls) (hk : w'.heap[B]? = w.heap[B]?) : RowAt w' B n ls := by
  obtain ⟨cs, h1, h2, h3⟩ := h
  exact ⟨cs, hk.trans h1, h2, h3⟩
theorem RowAt.calm {w w' : World} {B n : Nat} {ls : List Str} (h : RowAt w B n ls) (hc : Calm w w') (hB : B < w.heap.size) : RowAt w' B n ls := h.keep (hc.block B hB)
theorem RowAt.made (w : World) (n : Nat) : RowAt (w.alloc (.cells (madeCells #[.string ByteArray.empty] n) 9)) w.heap.size n [] :=
  ⟨_, heap_alloc_new w _, size_madeCells _ _, fun j l h => by simp at h⟩
theorem RowAt.cell {w : World} {B n : Nat} {ls : List Str} (h : RowAt w B n ls) {j : Nat} {l : Str} (hj : ls[j]? = some l) : w.cell? ⟨B, j, none⟩ = some (.string (bs l)) := by
  obtain ⟨cs, h1, h2, h3⟩ := h
  rw [cell_of_row w B j cs _ _ h1]
  exact h3 j l hj
theorem RowAt.some_ {w : World} {B n : Nat} {ls : List Str} (h : RowAt w B n ls) {j : Nat} (hj : j < n) : ∃ v, w.cell? ⟨B, j, none⟩ = some v := by
  obtain ⟨cs, h1, h2, h3⟩ := h
  exact ⟨cs[j]'(by omega), by rw [cell_of_row w B j cs _ _ h1]; exact Array.getElem?_eq_getElem _⟩
theorem RowAt.free {w : World} {B n : Nat} {ls : List Str} (h : RowAt w B n ls) (j : Nat) : w.frozen? ⟨B, j, none⟩ = false := by
  obtain ⟨cs, h1, _, _⟩ := h
  simp [World.frozen?, h1]
theorem RowAt.set {w : World} {B n : Nat} {ls : List Str} (h : RowAt w B n ls) {i : Nat} (hi : i = ls.length) (hn : i < n) (x : Str) : RowAt (w.setCell ⟨B, i, none⟩ (.string (bs x))) B n (ls ++ [x]) := by
  obtain ⟨cs, h1, h2, h3⟩ := h
  refine ⟨cs.setIfInBounds i (.string (bs x)), ?_, by simpa using h2, fun j l hj => ?_⟩
  · simp [World.setCell, Array.getElem?_modify, h1]
  · by_cases e : j = i
    · subst e
      rw [hi, List.getElem?_append_right (Nat.le_refl _)] at hj
      simp at hj
      subst hj
      simp [h2, hn]
    · have hjl : j < ls.length := by
        have := (List.getElem?_eq_some_iff.1 hj).1
        simp at this
        omega
      rw [List.getElem?_append_left hjl] at hj
      rw [Array.getElem?_setIfInBounds_ne (Ne.symm e)]
      exact h3 j l hj

/-- What the inner loop keeps. -/
structure Inner (w1 : World) (Bk Bi Bc n i : Nat) (ls : List Str) (y : Nat) (w : World) : Prop where
  calm : Calm w1 w
  row : RowAt w Bk n ls
  ci : w.heap[Bi]? = some (.cells #[.int .i64 i] 3 (0, 0))
  cc : w.heap[Bc]? = some (.cells #[.int .u64 y] 61 (0, 0))
  o1 : w1.heap.size ≤ Bk
  o2 : Bk < Bi
  o3 : Bi < Bc
  o4 : Bc < w.heap.size

section
variable {w1 w w' : World} {Bk Bi Bc n i y : Nat} {ls : List Str}
theorem Inner.next (h : Inner w1 Bk Bi Bc n i ls y w) (hc : Calm w w') : Inner w1 Bk Bi Bc n i ls y w' :=
  ⟨h.calm.trans hc, h.row.calm hc (by have := h.o2; have := h.o3; have := h.o4; omega), (hc.block Bi (by have := h.o3; have := h.o4; omega)).trans h.ci, (hc.block Bc h.o4).trans h.cc, h.o1, h.o2, h.o3, Nat.lt_of_lt_of_le h.o4 hc.size⟩
theorem Inner.i_ (h : Inner w1 Bk Bi Bc n i ls y w) : w.cell? ⟨Bi, 0, none⟩ = some (.int .i64 i) := by rw [cell_of_row w Bi 0 _ _ _ h.ci]; rfl
theorem Inner.c_ (h : Inner w1 Bk Bi Bc n i ls y w) : w.cell? ⟨Bc, 0, none⟩ = some (.int .u64 y) := by rw [cell_of_row w Bc 0 _ _ _ h.cc]; rfl
theorem Inner.f_ (h : Inner w1 Bk Bi Bc n i ls y w) : w.frozen? ⟨Bc, 0, none⟩ = false := by simp [World.frozen?, h.cc]
theorem Inner.drewN (h : Inner w1 Bk Bi Bc n i ls y w) (m : Nat) : Inner w1 Bk Bi Bc n i ls y (w.drewN m) := h.next ((Calm.refl w).drewN m)
theorem Inner.setC (h : Inner w1 Bk Bi Bc n i ls y w) (z : Nat) : Inner w1 Bk Bi Bc n i ls z (w.setCell ⟨Bc, 0, none⟩ (.int .u64 z)) := by
  have h1 := h.o1; have h2 := h.o2; have h3 := h.o3; have h4 := h.o4
  refine ⟨Below.setCell h.calm (p := ⟨Bc, 0, none⟩) (by show w1.heap.size ≤ Bc; omega) _, h.row.keep (Below.heap_setCell _ _ _ _ (by show Bk ≠ Bc; omega)), (Below.heap_setCell _ _ _ _ (by show Bi ≠ Bc; omega)).trans h.ci, ?_, h1, h2, h3, by simpa [World.setCell] using h4⟩
  have := h.cc
  simp [World.setCell, Array.getElem?_modify, this]
end
end Go.Proofs.YtdndfkoklhfffaaGreatDoor
