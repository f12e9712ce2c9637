/- A region that draws its order, whose operations read and whose callees only make new blocks: walked once. -/
import Derived.Test.YtlmclpbkhhgekaaDoorRead
import Derived.Deep.QuietTactic
import Derived.BigQuiet
set_option linter.unusedVariables false
set_option linter.unusedSimpArgs false
namespace Go.Proofs.YtlmclpbkhhgekaaDoor
open Go Go.RowKit

/-- A world that v may have grown to. -/
structure CalmTo (v : World) where
  w : World
  h : Calm v w

instance (v : World) : Inhabited (CalmTo v) := ⟨⟨v, Calm.refl v⟩⟩

theorem calmTo_iff {w w' : World} : (∃ p : CalmTo w, w' = p.w) ↔ Calm w w' :=
  ⟨fun ⟨p, hp⟩ => hp ▸ p.h, fun h => ⟨⟨w', h⟩, rfl⟩⟩

theorem wp_region_calm {P : Program} {id : Nat} {Q : Exit → Act → World → Prop} {a : Act} {w : World} {l : List Oper} (hm : P.follows .mixedOrders = true) (hB : Region.lexB .any l.toArray = true)
    (h : wpQuiet P l.toArray (fun w' => ∃ p : CalmTo w, w' = p.w) (fun a' => ∀ w', Calm w w' → Q .normal a' w') l a) : (Code.region id l.toArray true).wp P Q a w := by
  refine wp_region_quiet (C := fun w' => ∃ p : CalmTo w, w' = p.w) hm hB ⟨⟨_, (Calm.refl w).drewN 1⟩, rfl⟩ ?_
  have e : (fun a' => ∀ w', (∃ p : CalmTo w, w' = p.w) → Q .normal a' w') = (fun a' => ∀ w', Calm w w' → Q .normal a' w') := by
    funext a'
    simp only [calmTo_iff]
  rw [e]
  simpa using h

/-- A callee's contract, met in a world of the class. -/
theorem calmOf {P : Program} {f : FuncId} {args : Array Value} {w : World} {p : CalmTo w} {v : Value} (h : Calls P f args p.w fun e w' => e = .returned v ∧ Calm p.w w') : Calls P f args p.w fun e w'' => e = .returned v ∧ ∃ q : CalmTo w, w'' = q.w :=
  h.mono fun _ w'' ⟨he, hw⟩ => ⟨he, ⟨w'', p.h.trans hw⟩, rfl⟩
theorem calmOfL {P : Program} {f : FuncId} {args : Array Value} {w : World} {p : CalmTo w} {v : Value} (h : Calls P f args p.w fun e w' => e = .returned v ∧ p.w = w') : Calls P f args p.w fun e w'' => e = .returned v ∧ ∃ q : CalmTo w, w'' = q.w :=
  h.mono fun _ w'' ⟨he, hw⟩ => ⟨he, p, hw.symm⟩
theorem CalmTo.cell {w : World} {b o : Nat} {v : Value} (h : w.cell? ⟨b, o, none⟩ = some v) (hb : b < w.heap.size) (p : CalmTo w) : p.w.cell? ⟨b, o, none⟩ = some v :=
  (p.h.cell (p := ⟨b, o, none⟩) hb).trans h
theorem Calm.at_ {w w' : World} (h : Calm w w') {b o : Nat} {v : Value} (hc : w.cell? ⟨b, o, none⟩ = some v) (hb : b < w.heap.size) : w'.cell? ⟨b, o, none⟩ = some v :=
  (h.cell (p := ⟨b, o, none⟩) hb).trans hc
end Go.Proofs.YtlmclpbkhhgekaaDoor
