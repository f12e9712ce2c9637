/- Regions as arguments: opened to lists, of any size. -/
import Derived.Test.YtdndfkoklhfffaaDoorOpen
set_option linter.unusedVariables false
set_option linter.unusedSimpArgs false
namespace Go.Proofs.YtdndfkoklhfffaaDoor
open Go Go.ChangeShapes Go.WideShapes Go.RowKit Go.Deep Sy
section
variable {H : Type} {enc : TypeId × Value → H} {w : World}
theorem c_reg : Tryd.prog.cellsOf 27 = 3 := by kernel_rfl
set_option maxRecDepth 20000 in
theorem open_region {v : Value} {b0 : Nat} {d : DataW H} {p : List MemPlace} (hv : Value.okWide Tryd.prog w .any b0 27 v) (h : DataW.Trod enc Tryd.prog w 0 (fun _ => true) true 27 v d p) (hw : ∀ n ∈ d.weights Tryd.prog 27, n ≤ reachBytes) :
    ∃ (b : Pat) (hs : List Pat) (A : Option Addr) (c : Nat) (HA : Option Addr) (hc : Nat), v = .agg #[.slice A b.parts.length c, .bool b.rest, .slice HA hs.length hc] ∧ StrsG w A b.parts ∧ PatsG w HA hs ∧ b.parts.length ≤ c ∧ c ≤ 140737488355328 ∧ hs.length ≤ hc ∧ hc ≤ 140737488355328 := by
  obtain ⟨cs, rfl, hsz⟩ := okWide_struct Tryd.underlying27 hv
  rw [c_reg] at hsz
  obtain ⟨l⟩ := cs
  match l, hsz with
  | [c0, c1, c2], _ =>
    obtain ⟨fuel, hf⟩ := h
    obtain ⟨y0, y1, n, he, _, h0, h1⟩ := trod_struct2 Tryd.underlying27 hf
    simp only [Prod.mk.injEq] at he
    obtain ⟨rfl, _⟩ := he
    have e0 : DataW.trod enc Tryd.prog w 0 (fun _ => true) true n 24 [c0, c1] = some y0 := by
      simpa [Value.cells, c_pat] using h0
    have e1 : DataW.trod enc Tryd.prog w 0 (fun _ => true) true n 25 [c2] = some y1 := by
      simpa [Value.cells, c_pats] using h1
    obtain ⟨b, A, c, g1, g2, g3, g4⟩ := open_patV e0 (fun n hn => hw n ((weights_agg2 Tryd.underlying27).1 hn))
    obtain ⟨HA, hs, hc, k1, k2, k3, k4⟩ := open_patG e1 (fun n hn => hw n ((weights_agg2 Tryd.underlying27).2 hn))
    simp only [List.cons.injEq, and_true] at g1 k1
    obtain ⟨rfl, rfl⟩ := g1
    subst k1
    exact ⟨b, hs, A, c, HA, hc, rfl, g4, k4, g2, g3, k2, k3⟩
end
end Go.Proofs.YtdndfkoklhfffaaDoor
