/- Slices of patterns as arguments: opened to lists, of any size. -/
import Derived.Test.YtdndfkoklhfffaaGreatDoorOpen
set_option linter.unusedVariables false
set_option linter.unusedSimpArgs false
namespace Go.Proofs.YtdndfkoklhfffaaGreatDoor
open Go Go.ChangeShapes Go.WideShapes Go.RowKit Go.Deep Sy
section
variable {H : Type} {enc : TypeId × Value → H} {w : World}
theorem u_pats : Tryz.prog.underlying 25 = some (.slice 24) := Tryz.underlying25
theorem c_pats : Tryz.prog.cellsOf 25 = 1 := by kernel_rfl
theorem open_patG {fuel : Nat} {cs : List Value} {x : DataW H × List MemPlace} (h : DataW.trod enc Tryz.prog w 0 (fun _ => true) true fuel 25 cs = some x) (hw : ∀ n ∈ x.1.weights Tryz.prog 25, n ≤ reachBytes) :
    ∃ A ps c, cs = [.slice A (List.length ps) c] ∧ ps.length ≤ c ∧ c ≤ 140737488355328 ∧ PatsG w A ps := by
  rcases open_slice u_pats h with ⟨rfl, rfl⟩ | ⟨a, len, cap, m, n, D, Pl, rfl, hb, hl, hm, hmm, rfl, hx⟩
  · exact ⟨none, [], 0, rfl, Nat.le_refl _, by decide, by simp, (fun h0 => absurd h0 (Nat.lt_irrefl _))⟩
  · have hmc : m = cap := hmm
    subst hmc
    have hcap : m * 32 ≤ reachBytes := by
      refine hw _ ?_
      rw [DataW.weights, u_pats]
      simp only [b_pat, List.length_map, List.length_range]
      rw [show len + (m - len) = m by omega]
      exact List.mem_cons_self ..
    have hr : reachBytes = 140737488351232 := by decide
    rw [hr] at hcap
    have each : ∀ i, i < len → ∃ r : Pat × Option Addr × Nat, w.cell? (a.add (i * 2)) = some (.slice r.2.1 r.1.parts.length r.2.2) ∧ w.cell? ((a.add (i * 2)).add 1) = some (.bool r.1.rest) ∧ r.1.parts.length ≤ r.2.2 ∧ r.2.2 ≤ 9223372036854775807 ∧ StrsG w r.2.1 r.1.parts := fun i hi => by
      obtain ⟨cs', hc, ht⟩ := hx i (by omega)
      rw [c_pat] at hc
      obtain ⟨p, A, c, rfl, g2, g3, g4⟩ := open_patV ht (fun n hn => hw n (by
        rw [DataW.weights, u_pats]
        exact List.mem_cons_of_mem _ (List.mem_append.2 (.inl (weightsAll_mem (d := D i) (List.mem_map.2 ⟨i, List.mem_range.2 hi, rfl⟩) hn)))))
      obtain ⟨_, _, hat⟩ := World.cells?_some hc
      have h0 := hat 0 (by decide)
      have h1 := hat 1 (by decide)
      exact ⟨⟨p, A, c⟩, h0, h1, g2, Nat.le_trans g3 (by decide), g4⟩
    obtain ⟨R, hR⟩ := choose_lt each
    refine ⟨some a, (List.range len).map fun i => (R i).1, m, by simp, by simpa using hl, by omega, by simp; omega, fun h0 => ?_⟩
    have h0' : 0 < len := by simpa using h0
    obtain ⟨q1, q2⟩ := cell_lt (hR 0 h0').1
    obtain ⟨ab, ao, asp⟩ := a
    have q3 : asp = none := q2
    subst q3
    refine ⟨ab, ao, rfl, q1, fun k p hk => ?_⟩
    rw [List.getElem?_map] at hk
    obtain ⟨i, hi, rfl⟩ := Option.map_eq_some_iff.1 hk
    obtain ⟨hlt, he⟩ := List.getElem?_eq_some_iff.1 hi
    rw [List.getElem_range] at he
    subst he
    rw [List.length_range] at hlt
    obtain ⟨r1, r2, r3, r4, r5⟩ := hR k hlt
    rw [add_plain] at r1 r2
    rw [add_plain] at r2
    exact ⟨(R k).2.1, (R k).2.2, r1, r2, r3, r4, r5⟩


set_option maxRecDepth 20000 in
theorem open_patsL {v : Value} {b0 : Nat} {d : DataW H} {p : List MemPlace} (hv : Value.okWide Tryz.prog w .any b0 25 v) (h : DataW.Trod enc Tryz.prog w 0 (fun _ => true) true 25 v d p) (hw : ∀ n ∈ d.weights Tryz.prog 25, n ≤ reachBytes) :
    ∃ (A : Option Addr) (ps : List Pat) (c : Nat), v = .slice A ps.length c ∧ PatsG w A ps ∧ ps.length ≤ c ∧ c ≤ 9223372036854775807 := by
  obtain ⟨a0, len, cap, rfl⟩ := okWide_slice Tryz.underlying25 hv
  obtain ⟨fuel, hf⟩ := h
  obtain ⟨A, ps, c, h1, h2, h3, h4⟩ := open_patG hf hw
  simp only [Value.cells, List.cons.injEq, and_true] at h1
  exact ⟨A, ps, c, h1, h4, h2, Nat.le_trans h3 (by decide)⟩
end
end Go.Proofs.YtdndfkoklhfffaaGreatDoor
set_option linter.unusedVariables false
set_option linter.unusedSimpArgs false
namespace Go.Proofs.YtdndfkoklhfffaaGreatDoor
open Go Go.ChangeShapes Go.WideShapes Go.RowKit Go.Deep Sy
section
variable {H : Type} {enc : TypeId × Value → H} {w : World}
theorem c_reg : Tryz.prog.cellsOf 27 = 3 := by kernel_rfl
set_option maxRecDepth 20000 in
theorem open_region {v : Value} {b0 : Nat} {d : DataW H} {p : List MemPlace} (hv : Value.okWide Tryz.prog w .any b0 27 v) (h : DataW.Trod enc Tryz.prog w 0 (fun _ => true) true 27 v d p) (hw : ∀ n ∈ d.weights Tryz.prog 27, n ≤ reachBytes) :
    ∃ (b : Pat) (hs : List Pat) (A : Option Addr) (c : Nat) (HA : Option Addr) (hc : Nat), v = .agg #[.slice A b.parts.length c, .bool b.rest, .slice HA hs.length hc] ∧ StrsG w A b.parts ∧ PatsG w HA hs ∧ b.parts.length ≤ c ∧ c ≤ 9223372036854775807 ∧ hs.length ≤ hc ∧ hc ≤ 9223372036854775807 := by
  obtain ⟨cs, rfl, hsz⟩ := okWide_struct Tryz.underlying27 hv
  rw [c_reg] at hsz
  obtain ⟨l⟩ := cs
  match l, hsz with
  | [c0, c1, c2], _ =>
    obtain ⟨fuel, hf⟩ := h
    obtain ⟨y0, y1, n, he, _, h0, h1⟩ := trod_struct2 Tryz.underlying27 hf
    simp only [Prod.mk.injEq] at he
    obtain ⟨rfl, _⟩ := he
    have e0 : DataW.trod enc Tryz.prog w 0 (fun _ => true) true n 24 [c0, c1] = some y0 := by
      simpa [Value.cells, c_pat] using h0
    have e1 : DataW.trod enc Tryz.prog w 0 (fun _ => true) true n 25 [c2] = some y1 := by
      simpa [Value.cells, c_pats] using h1
    obtain ⟨b, A, c, g1, g2, g3, g4⟩ := open_patV e0 (fun n hn => hw n ((weights_agg2 Tryz.underlying27).1 hn))
    obtain ⟨HA, hs, hc, k1, k2, k3, k4⟩ := open_patG e1 (fun n hn => hw n ((weights_agg2 Tryz.underlying27).2 hn))
    simp only [List.cons.injEq, and_true] at g1 k1
    obtain ⟨rfl, rfl⟩ := g1
    subst k1
    exact ⟨b, hs, A, c, HA, hc, rfl, g4, k4, g2, Nat.le_trans g3 (by decide), k2, Nat.le_trans k3 (by decide)⟩
end
end Go.Proofs.YtdndfkoklhfffaaGreatDoor
