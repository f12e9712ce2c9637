/- Regions as arguments: opened to lists, of any size. -/
import Derived.Test.YtlmclpbkhhgekaaDoorProg
import Derived.Test.YtlmclpbkhhgekaaDoorRead
import Derived.ProofKit
import Derived.OpenShut
import Derived.SizedLaws
import Derived.Deep.Strs
import Derived.Deep.Slices
import Derived.ChangeSame
set_option linter.unusedVariables false
set_option linter.unusedSimpArgs false
namespace Go.Proofs.YtlmclpbkhhgekaaDoor
open Go Go.ChangeShapes Go.WideShapes Go.RowKit Go.Deep Sy

theorem cell_lt {w : World} {a : Addr} {v : Value} (h : w.cell? a = some v) : a.block < w.heap.size ∧ a.spot = none := by
  unfold World.cell? at h
  split at h
  · rename_i h1
    constructor
    · rcases Nat.lt_or_ge a.block w.heap.size with h2 | h2
      · exact h2
      · rw [Array.getElem?_eq_none h2] at h1; cases h1
    · split at h
      · cases h
      · rename_i h2; simpa using h2
  · cases h

theorem weightsAll_mem {H : Type} {P : Program} {e : TypeId} {n : Nat} : ∀ {l : List (DataW H)} {d : DataW H}, d ∈ l → n ∈ d.weights P e → n ∈ DataW.weightsAll P e l
  | [], d, hd, _ => by cases hd
  | a :: l, d, hd, hn => by
    rw [DataW.weightsAll]
    rcases List.mem_cons.1 hd with rfl | h1
    · exact List.mem_append.2 (.inl hn)
    · exact List.mem_append.2 (.inr (weightsAll_mem h1 hn))

section
variable {H : Type} {enc : TypeId × Value → H} {w : World}

theorem u_strs : Tryd.prog.underlying 31 = some (.slice 9) := Tryd.underlying31
theorem u_str : Tryd.prog.underlying 9 = some .string := Tryd.underlying9
theorem u_bool : Tryd.prog.underlying 4 = some .bool := Tryd.underlying4
theorem c_str : Tryd.prog.cellsOf 9 = 1 := by kernel_rfl
theorem c_strs : Tryd.prog.cellsOf 31 = 1 := by kernel_rfl
theorem c_bool : Tryd.prog.cellsOf 4 = 1 := by kernel_rfl
theorem c_pat : Tryd.prog.cellsOf 33 = 2 := by kernel_rfl
theorem b_str : Tryd.prog.bytesOf 9 = 16 := by kernel_rfl
theorem b_pat : Tryd.prog.bytesOf 33 = 32 := by kernel_rfl

theorem open_strG {fuel : Nat} {cs : List Value} {x : DataW H × List MemPlace} (h : DataW.trod enc Tryd.prog w 0 (fun _ => true) true fuel 31 cs = some x) (hw : ∀ n ∈ x.1.weights Tryd.prog 31, n ≤ reachBytes) :
    ∃ A ls c, cs = [.slice A (List.length ls) c] ∧ ls.length ≤ c ∧ c ≤ 140737488355328 ∧ StrsG w A ls := by
  rcases open_strs u_strs u_str c_str h with ⟨rfl, rfl⟩ | ⟨a, len, cap, m, Sx, rfl, hb, hl, hm, hmm, rfl, hx⟩
  · exact ⟨none, [], 0, rfl, Nat.le_refl _, by decide, by simp, (fun l hl => by cases hl), (fun h0 => absurd h0 (Nat.lt_irrefl _))⟩
  · have hmc : m = cap := hmm
    subst hmc
    have hcap : m * 16 ≤ reachBytes := by
      refine hw _ ?_
      rw [DataW.weights, u_strs]
      simp only [b_str, List.length_map, List.length_range]
      rw [show len + (m - len) = m by omega]
      exact List.mem_cons_self ..
    have hr : reachBytes = 140737488351232 := by decide
    rw [hr] at hcap
    have heach : ∀ i, i < len → (Sx i).data.toList.length ≤ 140737488351232 := fun i hi => by
      rw [← hr]
      refine hw _ ?_
      rw [DataW.weights, u_strs]
      refine List.mem_cons_of_mem _ (List.mem_append.2 (.inl (weightsAll_mem (d := .lit (.string (Sx i).data.toList)) (List.mem_map.2 ⟨i, List.mem_range.2 hi, rfl⟩) ?_)))
      rw [DataW.weights]
      exact List.mem_singleton.2 rfl
    refine ⟨some a, (List.range len).map fun i => (Sx i).data.toList, m, by simp, by simpa using hl, by omega, by simp; omega, fun l hl2 => ?_, fun h0 => ?_⟩
    · obtain ⟨i, hi, rfl⟩ := List.mem_map.1 hl2
      have := heach i (List.mem_range.1 hi)
      omega
    · have h0' : 0 < len := by simpa using h0
      obtain ⟨q1, q2⟩ := cell_lt (hx 0 (by omega)).1
      obtain ⟨ab, ao, asp⟩ := a
      have q3 : asp = none := q2
      subst q3
      refine ⟨ab, ao, rfl, q1, fun k l hk => ?_⟩
      rw [List.getElem?_map] at hk
      obtain ⟨i, hi, rfl⟩ := Option.map_eq_some_iff.1 hk
      obtain ⟨hlt, he⟩ := List.getElem?_eq_some_iff.1 hi
      rw [List.getElem_range] at he
      subst he
      rw [List.length_range] at hlt
      have := (hx k (by omega)).1
      rw [add_plain] at this
      rw [this, bs_eta]

theorem weights_agg2 {t : TypeId} {f0 f1 : Field} {d0 d1 : DataW H} {n : Nat} (ht : Tryd.prog.underlying t = some (.struct #[f0, f1])) : (n ∈ d0.weights Tryd.prog f0.type → n ∈ (DataW.agg [d0, d1]).weights Tryd.prog t) ∧ (n ∈ d1.weights Tryd.prog f1.type → n ∈ (DataW.agg [d0, d1]).weights Tryd.prog t) := by
  rw [DataW.weights, ht]
  simp only [List.map_cons, List.map_nil, DataW.weightsEach, List.append_nil, List.mem_append]
  exact ⟨.inl, .inr⟩

set_option maxRecDepth 20000 in
theorem open_patV {fuel : Nat} {cs : List Value} {x : DataW H × List MemPlace} (h : DataW.trod enc Tryd.prog w 0 (fun _ => true) true fuel 33 cs = some x) (hw : ∀ n ∈ x.1.weights Tryd.prog 33, n ≤ reachBytes) :
    ∃ (p : Pat) (A : Option Addr) (c : Nat), cs = [.slice A p.parts.length c, .bool p.rest] ∧ p.parts.length ≤ c ∧ c ≤ 140737488355328 ∧ StrsG w A p.parts := by
  obtain ⟨y0, y1, n, rfl, hlen, h0, h1⟩ := trod_struct2 Tryd.underlying33 h
  rw [c_pat] at hlen
  match cs, hlen with
  | [c0, c1], _ =>
    have e0 : DataW.trod enc Tryd.prog w 0 (fun _ => true) true n 31 [c0] = some y0 := h0
    have e1 : DataW.trod enc Tryd.prog w 0 (fun _ => true) true n 4 [c1] = some y1 := h1
    obtain ⟨A, ls, c, g1, g2, g3, g4⟩ := open_strG e0 (fun n hn => hw n ((weights_agg2 Tryd.underlying33).1 hn))
    obtain ⟨r, g5, _⟩ := DataW.trod_bool u_bool e1
    simp only [List.cons.injEq, and_true] at g1 g5
    subst g1
    subst g5
    exact ⟨⟨ls, r⟩, A, c, rfl, g2, g3, g4⟩

set_option maxRecDepth 20000 in
theorem open_strL {v : Value} {b0 : Nat} {d : DataW H} {p : List MemPlace} (hv : Value.okWide Tryd.prog w .any b0 9 v) (h : DataW.Trod enc Tryd.prog w 0 (fun _ => true) true 9 v d p) :
    ∃ s : Str, v = .string (bs s) ∧ s.length ≤ 9223372036854775807 := by
  obtain ⟨s, rfl, _, _, hs⟩ := Go.ChangeMaps.open_string Tryd.underlying9 hv h
  refine ⟨s.data.toList, by rw [bs_eta], ?_⟩
  have h2 : s.data.toList.length = s.size := rfl
  rw [h2]
  exact hs
set_option maxRecDepth 20000 in
theorem open_strD {v : Value} {b0 : Nat} {d : DataW H} {p : List MemPlace} (hv : Value.okWide Tryd.prog w .any b0 9 v) (h : DataW.Trod enc Tryd.prog w 0 (fun _ => true) true 9 v d p) :
    ∃ s : Str, v = .string (bs s) ∧ d = .lit (.string s) ∧ s.length ≤ 9223372036854775807 := by
  obtain ⟨s, rfl, hd, _, hs⟩ := Go.ChangeMaps.open_string Tryd.underlying9 hv h
  refine ⟨s.data.toList, by rw [bs_eta], hd, ?_⟩
  have h2 : s.data.toList.length = s.size := rfl
  rw [h2]
  exact hs
end
end Go.Proofs.YtlmclpbkhhgekaaDoor
