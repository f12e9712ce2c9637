/- Walks: the law's awake. -/
import Derived.Test.YtdndfkoklhfffaaDoorWalkV
set_option linter.unusedVariables false
set_option linter.unusedSimpArgs false
namespace Go.Proofs.YtdndfkoklhfffaaDoor
open Go Go.RowKit Sy

def exB : Pat := ⟨[[97]], true⟩
def exH : Pat := ⟨[[97], [42]], false⟩
theorem ex_len : leastLen exB [exH] = 3 := by decide +kernel
theorem ex_str : leastStr exB [exH] 3 = [47, 47, 97, 47, 43, 47, 43] := by decide +kernel
theorem ex_val : leastVal exB [exH] = .tuple #[.string (bs [47, 47, 97, 47, 43, 47, 43]), .bool true, .int .i64 0] := by
  rw [leastVal, ex_len, ex_str]
  rfl
theorem ex_err : regErr exB [exH] = 0 := by decide +kernel

def exW (w : World) : World :=
  ((((w.alloc (Obj.cells #[Value.string ⟨#[97]⟩] 9)).alloc (Obj.cells #[Value.slice (some { block := w.heap.size, off := 0 }) 1 1, Value.bool true] 24)).alloc (Obj.cells #[Value.string ⟨#[97]⟩, Value.string ⟨#[42]⟩] 9)).alloc
    (Obj.cells #[Value.slice (some { block := w.heap.size + 1 + 1, off := 0 }) 2 2, Value.bool false] 24))
theorem ex_calm (w : World) : Calm w (exW w) := ((((Calm.refl w).alloc _).alloc _).alloc _).alloc _
theorem new_at {v w' : World} {cs : Array Value} {t : TypeId} {n k : Nat} {x : Value} (hc : Calm (v.alloc (.cells cs t)) w') (hs : v.heap.size = n) (h : cs[k]? = some x) : w'.cell? ⟨n, k, none⟩ = some x := by
  subst hs
  refine hc.at_ ?_ (by simp)
  rw [cell_of_row _ v.heap.size k _ _ _ (heap_alloc_new v _)]
  exact h
theorem ex_size (w : World) : (exW w).heap.size = w.heap.size + 4 := by simp [exW]
theorem ex_base (w : World) : StrsR (exW w) (some ⟨w.heap.size, 0, none⟩) exB.parts := by
  refine ⟨by decide, by decide, fun _ => ⟨_, 0, rfl, by rw [ex_size]; omega, fun k l hl => ?_⟩⟩
  rw [Nat.zero_add]
  refine new_at (v := w) ((((Calm.refl _).alloc _).alloc _).alloc _) rfl ?_
  match k, hl with
  | 0, hl => cases hl; rfl
theorem ex_hole (w : World) : StrsR (exW w) (some ⟨w.heap.size + 1 + 1, 0, none⟩) exH.parts := by
  refine ⟨by decide, by decide, fun _ => ⟨_, 0, rfl, by rw [ex_size]; omega, fun k l hl => ?_⟩⟩
  rw [Nat.zero_add]
  refine new_at (v := (w.alloc _).alloc _) ((Calm.refl _).alloc _) (by simp) ?_
  match k, hl with
  | 0, hl => cases hl; rfl
  | 1, hl => cases hl; rfl
theorem ex_holes (w : World) : PatsR (exW w) (some ⟨w.heap.size + 1 + 1 + 1, 0, none⟩) [exH] := by
  refine ⟨by decide, fun _ => ⟨_, 0, rfl, by rw [ex_size]; omega, fun k p hp => ?_⟩⟩
  match k, hp with
  | 0, hp => cases hp; exact ⟨some ⟨w.heap.size + 1 + 1, 0, none⟩, 2, new_at (v := ((w.alloc _).alloc _).alloc _) (Calm.refl _) (by simp) rfl, new_at (v := ((w.alloc _).alloc _).alloc _) (Calm.refl _) (by simp) rfl, by decide, by decide, ex_hole w⟩
theorem ex_least (w : World) (ht : Tab w) : Calls Tryd.prog 13 #[.agg #[.slice (some ⟨w.heap.size, 0, none⟩) 1 1, .bool true, .slice (some ⟨w.heap.size + 1 + 1 + 1, 0, none⟩) 1 1]] (exW w) fun e w' => e = .returned (.tuple #[.string (bs [47, 47, 97, 47, 43, 47, 43]), .bool true, .int .i64 0]) ∧ Calm (exW w) w' := by
  have := least_c exB [exH] (some ⟨w.heap.size, 0, none⟩) 1 (some ⟨w.heap.size + 1 + 1 + 1, 0, none⟩) 1 (exW w) (ex_base w) (by decide) (by decide) (ex_holes w) (ht.calm (ex_calm w)) ex_err (by decide)
  rw [ex_val] at this
  exact this

set_option maxRecDepth 100000 in
set_option maxHeartbeats 4000000 in
theorem awake_c (w : World) (ht : Tab w) : Calls Tryd.prog 11 #[] w fun e w' => e = .returned (.bool true) ∧ Calm w w' := by
  have HT := Lib.hid ht
  clear ht
  go_enter Tryd.func11, Tryd.ntmps11
  go_wp2_with fail
  refine ((ex_least w HT.out).mono ?_)
  rintro e w2 ⟨rfl, hc2⟩
  go_wp2
  all_goals go_ret
  all_goals exact ⟨rfl, (((((Calm.refl w).alloc _).alloc _).alloc _).alloc _).trans hc2⟩
end Go.Proofs.YtdndfkoklhfffaaDoor
