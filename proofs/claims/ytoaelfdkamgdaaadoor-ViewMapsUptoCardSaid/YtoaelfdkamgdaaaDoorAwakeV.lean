/- Walks: awake of the laws of views. -/
import Derived.Test.YtoaelfdkamgdaaaDoorSmallV
set_option linter.unusedVariables false
set_option linter.unusedSimpArgs false
namespace Go.Proofs.YtoaelfdkamgdaaaDoor
open Go Go.RowKit Sy

def exV : List Rule := [⟨false, ⟨[[100]], true⟩, ⟨[[99]], true⟩⟩]
theorem exV_fwd : vfwd exV [47, 47, 100, 47, 97] = some [47, 47, 99, 47, 97] := by decide +kernel
theorem exV_dec : decides exV [47, 47, 101, 47, 97] = -1 := by decide +kernel
theorem exV_small : ∀ r ∈ exV, SmallV r := fun r hr => by
  rw [exV, List.mem_singleton] at hr
  subst hr
  exact ⟨by decide, by decide, by decide, by decide⟩
theorem exV_t : ∀ (k : Nat) r t, decL exV [47, 47, 100, 47, 97] = k → exV[k]? = some r → fwd r [47, 47, 100, 47, 97] = some t → t.length ≤ 10000 := fun k r t _ hr hf => by
  match k, hr with
  | 0, hr =>
    simp only [exV, List.getElem?_cons_zero, Option.some.injEq] at hr
    subst hr
    have : fwd ⟨false, ⟨[[100]], true⟩, ⟨[[99]], true⟩⟩ [47, 47, 100, 47, 97] = some [47, 47, 99, 47, 97] := by decide +kernel
    rw [this] at hf
    cases hf
    decide

def exVW (w : World) : World :=
  (((((w.alloc (Obj.cells #[Value.string ⟨#[100]⟩] 9)).alloc (Obj.cells #[Value.string ⟨#[99]⟩] 9)).alloc (Obj.cells #[Value.slice (some { block := w.heap.size, off := 0 }) 1 1, Value.bool true] 25)).alloc
    (Obj.cells #[Value.slice (some { block := w.heap.size + 1, off := 0 }) 1 1, Value.bool true] 25)).alloc
    (Obj.cells #[Value.bool false, Value.slice (some { block := w.heap.size, off := 0 }) 1 1, Value.bool true, Value.slice (some { block := w.heap.size + 1, off := 0 }) 1 1, Value.bool true] 27))
theorem exVW_calm (w : World) : Calm w (exVW w) := (((((Calm.refl w).alloc _).alloc _).alloc _).alloc _).alloc _
theorem exVW_size (w : World) : (exVW w).heap.size = w.heap.size + 5 := by simp [exVW]
theorem newv_at {v w' : World} {cs : Array Value} {t : TypeId} {n k : Nat} {x : Value} (hc : Calm (v.alloc (.cells cs t)) w') (hs : v.heap.size = n) (h : cs[k]? = some x) : w'.cell? ⟨n, k, none⟩ = some x := by
  subst hs
  refine hc.at_ ?_ (by simp)
  rw [cell_of_row _ v.heap.size k _ _ _ (heap_alloc_new v _)]
  exact h
theorem exVW_rules (w : World) : RulesU (exVW w) (some ⟨w.heap.size + 1 + 1 + 1 + 1, 0, none⟩) exV := by
  refine ⟨by decide, fun _ => ⟨_, 0, rfl, by rw [exVW_size]; omega, fun k r hr => ?_⟩⟩
  match k, hr with
  | 0, hr =>
    cases hr
    refine ⟨⟨some ⟨w.heap.size, 0, none⟩, 1, some ⟨w.heap.size + 1, 0, none⟩, 1⟩, ⟨?_, ?_, ?_, ?_, ?_⟩, ⟨⟨by decide, by decide, fun _ => ⟨_, 0, rfl, by rw [exVW_size]; omega, fun k l hl => ?_⟩⟩, ⟨by decide, by decide, fun _ => ⟨_, 0, rfl, by rw [exVW_size]; omega, fun k l hl => ?_⟩⟩, Nat.le_refl 1, Nat.le_refl 1, (by show 1 ≤ 9223372036854775807; omega), (by show 1 ≤ 9223372036854775807; omega)⟩⟩
    · exact newv_at (v := (((w.alloc _).alloc _).alloc _).alloc _) (Calm.refl _) (by simp) rfl
    · exact newv_at (v := (((w.alloc _).alloc _).alloc _).alloc _) (Calm.refl _) (by simp) rfl
    · exact newv_at (v := (((w.alloc _).alloc _).alloc _).alloc _) (Calm.refl _) (by simp) rfl
    · exact newv_at (v := (((w.alloc _).alloc _).alloc _).alloc _) (Calm.refl _) (by simp) rfl
    · exact newv_at (v := (((w.alloc _).alloc _).alloc _).alloc _) (Calm.refl _) (by simp) rfl
    · rw [Nat.zero_add]
      refine newv_at (v := w) (((((Calm.refl _).alloc _).alloc _).alloc _).alloc _) rfl ?_
      match k, hl with
      | 0, hl => cases hl; rfl
    · rw [Nat.zero_add]
      refine newv_at (v := w.alloc _) ((((Calm.refl _).alloc _).alloc _).alloc _) (by simp) ?_
      match k, hl with
      | 0, hl => cases hl; rfl

theorem exV_f (w : World) (hM : MaxL w) : Calls Tryd.prog 13 #[.slice (some ⟨w.heap.size + 1 + 1 + 1 + 1, 0, none⟩) 1 1, .string ⟨#[47, 47, 100, 47, 97]⟩] (exVW w) fun e w' => e = .returned (.tuple #[.string ⟨#[47, 47, 99, 47, 97]⟩, .bool true]) ∧ Calm (exVW w) w' := by
  have := vfwd_c exV [47, 47, 100, 47, 97] (some ⟨w.heap.size + 1 + 1 + 1 + 1, 0, none⟩) 1 1 (exVW w) (by decide) (hM.calm (exVW_calm w)) (exVW_rules w) exV_small rfl exV_t
  rw [vfV_some exV_fwd] at this
  exact this
theorem exV_d (w : World) (hM : MaxL w) (W : World) (hW : Calm (exVW w) W) : Calls Tryd.prog 16 #[.slice (some ⟨w.heap.size + 1 + 1 + 1 + 1, 0, none⟩) 1 1, .string ⟨#[47, 47, 101, 47, 97]⟩] W fun e w' => e = .returned (.int .i64 (-1)) ∧ Calm W w' :=
  vdec_c exV [47, 47, 101, 47, 97] (-1) (some ⟨w.heap.size + 1 + 1 + 1 + 1, 0, none⟩) 1 1 W (by decide) (hM.calm ((exVW_calm w).trans hW)) ((exVW_rules w).calm hW) exV_small rfl exV_dec

set_option maxRecDepth 100000 in
set_option maxHeartbeats 4000000 in
theorem awakev_c (w : World) (ht : MaxL w) : Calls Tryd.prog 12 #[] w fun e w' => e = .returned (.bool true) ∧ Calm w w' := by
  have HT := Lib.hid ht
  clear ht
  go_enter Tryd.func12, Tryd.ntmps12
  go_wp2_with fail
  refine ((exV_f w HT.out).mono ?_)
  rintro e w2 ⟨rfl, hc2⟩
  have hd := exV_d w HT.out w2 hc2
  go_wp2_with (go_at_call 16; refine hd.mono ?_; rintro e w3 ⟨rfl, hc3⟩)
  go_ret
  exact ⟨rfl, (exVW_calm w).trans (hc2.trans hc3)⟩
end Go.Proofs.YtoaelfdkamgdaaaDoor
