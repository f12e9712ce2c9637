/- Entries and regions as arguments of at most 1048576 values and letters: opened to lists. -/
import Derived.Test.YteplgaabicminaaGreatDoorProg
import Derived.ProofKit
import Derived.OpenShut
import Derived.SizedLaws
import Derived.Deep.Strs
import Derived.Deep.Slices
import Derived.ChangeSame
import Derived.Test.YteplgaabicminaaGreatDoorRows
import Derived.Test.YteplgaabicminaaGreatDoorZWalkD
import Derived.Test.YteplgaabicminaaGreatDoorZEntM
import Derived.Test.YteplgaabicminaaGreatDoorZMapA
set_option linter.unusedVariables false
set_option linter.unusedSimpArgs false
namespace Go.Proofs.YteplgaabicminaaGreatDoor
open Go Go.ChangeShapes Go.WideShapes Go.RowKit Go.Deep Sy

theorem cell_lt {w : World} {a : Addr} {v : Value} (h : w.cell? a = some v) : a.block < w.heap.size ∧ a.spot = none := by
  unfold World.cell? at h
  split at h
  · rename_i h1
    constructor
    · rcases Nat.lt_or_ge a.block w.heap.size with h2 | h2
      · exact h2
      · rw [Array.getElem?_eq_none h2] at h1; cases h1
    · split at h
      · cases h
      · rename_i h2; simpa using h2
  · cases h

section
variable {H : Type} {enc : TypeId × Value → H} {w : World}

theorem u_strs : Tryz.prog.underlying 36 = some (.slice 9) := Tryz.underlying36
theorem u_str : Tryz.prog.underlying 9 = some .string := Tryz.underlying9
theorem u_bool : Tryz.prog.underlying 4 = some .bool := Tryz.underlying4
theorem c_str : Tryz.prog.cellsOf 9 = 1 := by kernel_rfl
theorem c_pat : Tryz.prog.cellsOf 38 = 2 := by kernel_rfl
set_option maxRecDepth 20000 in
theorem open_strD {v : Value} {b0 : Nat} {d : DataW H} {p : List MemPlace} (hv : Value.okWide Tryz.prog w .any b0 9 v) (h : DataW.Trod enc Tryz.prog w 0 (fun _ => true) true 9 v d p) :
    ∃ s : Str, v = .string (bs s) ∧ d = .lit (.string s) ∧ s.length ≤ 9223372036854775807 := by
  obtain ⟨s, rfl, hd, _, hs⟩ := Go.ChangeMaps.open_string Tryz.underlying9 hv h
  refine ⟨s.data.toList, by rw [bs_eta], hd, ?_⟩
  have h2 : s.data.toList.length = s.size := rfl
  rw [h2]
  exact hs
end
end Go.Proofs.YteplgaabicminaaGreatDoor
set_option linter.unusedVariables false
set_option linter.unusedSimpArgs false
namespace Go.Proofs.YteplgaabicminaaGreatDoor.bulks

theorem one_le {H : Type} (d : DataW H) : 1 ≤ Rows.uptoBulk d := by
  cases d with
  | lit l => cases l <;> simp [Rows.uptoBulk]
  | nil => simp [Rows.uptoBulk]
  | ptr d => simp [Rows.uptoBulk]
  | slice elems spare => simp [Rows.uptoBulk]
  | agg parts => simp [Rows.uptoBulk]
  | iface t d => simp [Rows.uptoBulk]
  | map entries => simp [Rows.uptoBulk]
  | held h => simp [Rows.uptoBulk]
theorem part_le {H : Type} {d : DataW H} {l : List (DataW H)} (h : d ∈ l) : Rows.uptoBulk d ≤ Rows.uptoBulkAll l := by
  induction l with
  | nil => cases h
  | cons x r ih =>
    simp only [Rows.uptoBulkAll]
    cases List.mem_cons.1 h with
    | inl e => subst e; omega
    | inr e => have := ih e; omega
theorem length_le {H : Type} (l : List (DataW H)) : l.length ≤ Rows.uptoBulkAll l := by
  induction l with
  | nil => simp [Rows.uptoBulkAll]
  | cons x r ih => have := one_le x; simp only [Rows.uptoBulkAll, List.length_cons]; omega
theorem slice_le {H : Type} (elems spare : List (DataW H)) : elems.length + spare.length + 1 ≤ Rows.uptoBulk (.slice elems spare) := by
  have h1 := length_le elems
  have h2 := length_le spare
  simp only [Rows.uptoBulk]
  omega
theorem slice_elems {H : Type} (elems spare : List (DataW H)) : Rows.uptoBulkAll elems + 1 ≤ Rows.uptoBulk (.slice elems spare) := by
  simp only [Rows.uptoBulk]
  omega
theorem slice_part {H : Type} {d : DataW H} {elems spare : List (DataW H)} (h : d ∈ elems) : Rows.uptoBulk d ≤ Rows.uptoBulk (.slice elems spare) := by
  have h1 := part_le h
  have h2 := slice_elems elems spare
  omega
theorem agg_part {H : Type} {d : DataW H} {parts : List (DataW H)} (h : d ∈ parts) : Rows.uptoBulk d ≤ Rows.uptoBulk (.agg parts) := by
  have h1 := part_le h
  simp only [Rows.uptoBulk]
  omega
theorem all_part {H : Type} {d : DataW H} {l : List (DataW H)} {B : Nat} (hb : Rows.uptoBulkAll l ≤ B) (h : d ∈ l) : Rows.uptoBulk d ≤ B := Nat.le_trans (part_le h) hb
theorem string_eq {H : Type} (bytes : List UInt8) : Rows.uptoBulk (DataW.lit (H := H) (.string bytes)) = bytes.length + 1 := by
  simp [Rows.uptoBulk]
end Go.Proofs.YteplgaabicminaaGreatDoor.bulks
set_option linter.unusedVariables false
set_option linter.unusedSimpArgs false
namespace Go.Proofs.YteplgaabicminaaGreatDoor
open Go Go.ChangeShapes Go.WideShapes Go.RowKit Go.Deep Sy
section
variable {H : Type} {enc : TypeId × Value → H} {w : World}
set_option maxRecDepth 20000 in
theorem open_strU {fuel : Nat} {cs : List Value} {x : DataW H × List MemPlace} (h : DataW.trod enc Tryz.prog w 0 (fun _ => true) true fuel 36 cs = some x) (hb : Rows.uptoBulk x.1 ≤ 1048576) :
    ∃ A ls c, cs = [.slice A (List.length ls) c] ∧ ls.length ≤ c ∧ c ≤ 140737488355328 ∧ StrsU w A ls := by
  rcases open_strs u_strs u_str c_str h with ⟨rfl, rfl⟩ | ⟨a, len, cap, m, Sx, rfl, _, hl, hm, hmm, rfl, hx⟩
  · exact ⟨none, [], 0, rfl, Nat.le_refl _, by decide, by simp, (fun l hl => by cases hl), (fun h0 => absurd h0 (Nat.lt_irrefl _))⟩
  · have hmc : m = cap := hmm
    subst hmc
    have hs := bulks.slice_le ((List.range len).map fun i => DataW.lit (H := H) (.string (Sx i).data.toList)) ((List.range (m - len)).map fun j => .lit (.string (Sx (len + j)).data.toList))
    simp only [List.length_map, List.length_range] at hs
    have heach : ∀ i, i < len → (Sx i).data.toList.length ≤ 1048576 := fun i hi => by
      have h1 := bulks.slice_part (spare := (List.range (m - len)).map fun j => DataW.lit (H := H) (.string (Sx (len + j)).data.toList)) (List.mem_map.2 ⟨i, List.mem_range.2 hi, rfl⟩ : DataW.lit (H := H) (.string (Sx i).data.toList) ∈ (List.range len).map fun i => DataW.lit (H := H) (.string (Sx i).data.toList))
      rw [bulks.string_eq] at h1
      have h2 := Nat.le_trans h1 hb
      omega
    have hcl : m ≤ 1048576 := by
      have h2 := Nat.le_trans hs hb
      omega
    refine ⟨some a, (List.range len).map fun i => (Sx i).data.toList, m, by simp, by simpa using hl, by omega, by simp; omega, fun l hl2 => ?_, fun h0 => ?_⟩
    · obtain ⟨i, hi, rfl⟩ := List.mem_map.1 hl2
      exact heach i (List.mem_range.1 hi)
    · have h0' : 0 < len := by simpa using h0
      obtain ⟨q1, q2⟩ := cell_lt (hx 0 (by omega)).1
      obtain ⟨ab, ao, asp⟩ := a
      have q3 : asp = none := q2
      subst q3
      refine ⟨ab, ao, rfl, q1, fun k l hk => ?_⟩
      rw [List.getElem?_map] at hk
      obtain ⟨i, hi, rfl⟩ := Option.map_eq_some_iff.1 hk
      obtain ⟨hlt, he⟩ := List.getElem?_eq_some_iff.1 hi
      rw [List.getElem_range] at he
      subst he
      rw [List.length_range] at hlt
      have := (hx k (by omega)).1
      rw [add_plain] at this
      rw [this, bs_eta]

set_option maxRecDepth 20000 in
theorem open_patU {fuel : Nat} {cs : List Value} {x : DataW H × List MemPlace} (h : DataW.trod enc Tryz.prog w 0 (fun _ => true) true fuel 38 cs = some x) (hb : Rows.uptoBulk x.1 ≤ 1048576) :
    ∃ (p : Pat) (A : Option Addr) (c : Nat), cs = [.slice A p.parts.length c, .bool p.rest] ∧ p.parts.length ≤ c ∧ c ≤ 140737488355328 ∧ StrsU w A p.parts := by
  obtain ⟨y0, y1, n, rfl, hlen, h0, h1⟩ := trod_struct2 Tryz.underlying38 h
  rw [c_pat] at hlen
  match cs, hlen with
  | [c0, c1], _ =>
    have e0 : DataW.trod enc Tryz.prog w 0 (fun _ => true) true n 36 [c0] = some y0 := h0
    have e1 : DataW.trod enc Tryz.prog w 0 (fun _ => true) true n 4 [c1] = some y1 := h1
    obtain ⟨A, ls, c, g1, g2, g3, g4⟩ := open_strU e0 (Nat.le_trans (bulks.agg_part (by simp)) hb)
    obtain ⟨r, g5, _⟩ := DataW.trod_bool u_bool e1
    simp only [List.cons.injEq, and_true] at g1 g5
    subst g1
    subst g5
    exact ⟨⟨ls, r⟩, A, c, rfl, g2, g3, g4⟩

end
end Go.Proofs.YteplgaabicminaaGreatDoor
set_option linter.unusedVariables false
set_option linter.unusedSimpArgs false
namespace Go.Proofs.YteplgaabicminaaGreatDoor
open Go Go.ChangeShapes Go.WideShapes Go.RowKit Go.Deep Sy
section
variable {H : Type} {enc : TypeId × Value → H} {w : World}
theorem u_patsE : Tryz.prog.underlying 39 = some (.slice 38) := Tryz.underlying39
theorem c_patsE : Tryz.prog.cellsOf 39 = 1 := by kernel_rfl
theorem u_ents : Tryz.prog.underlying 22 = some (.slice 41) := Tryz.underlying22
theorem c_ent : Tryz.prog.cellsOf 41 = 5 := by kernel_rfl

set_option maxRecDepth 20000 in
theorem open_patsU {fuel : Nat} {cs : List Value} {x : DataW H × List MemPlace} (h : DataW.trod enc Tryz.prog w 0 (fun _ => true) true fuel 39 cs = some x) (hb : Rows.uptoBulk x.1 ≤ 1048576) :
    ∃ A ps c, cs = [.slice A (List.length ps) c] ∧ ps.length ≤ c ∧ c ≤ 1048576 ∧ PatsU w A ps := by
  rcases open_slice u_patsE h with ⟨rfl, rfl⟩ | ⟨a, len, cap, m, n, D, Pq, rfl, _, hl, hm, hmm, rfl, hx⟩
  · exact ⟨none, [], 0, rfl, Nat.le_refl _, by decide, by simp, (fun h0 => absurd h0 (Nat.lt_irrefl _))⟩
  · have hmc : m = cap := hmm
    subst hmc
    have hs := bulks.slice_le ((List.range len).map D) ((List.range (m - len)).map fun j => D (len + j))
    simp only [List.length_map, List.length_range] at hs
    have hcl : m ≤ 1048576 := by
      have h2 := Nat.le_trans hs hb
      omega
    have each : ∀ i, i < len → ∃ y : NewP, (∀ ab ao, a = ⟨ab, ao, none⟩ → w.cell? ⟨ab, ao + i * 2, none⟩ = some (.slice y.A y.p.parts.length y.c) ∧ w.cell? ⟨ab, ao + i * 2 + 1, none⟩ = some (.bool y.p.rest)) ∧ (y.p.parts.length ≤ y.c ∧ y.c ≤ 9223372036854775807 ∧ StrsU w y.A y.p.parts) ∧ (w.cell? (a.add (i * 2))).isSome = true := fun i hi => by
      obtain ⟨cs', hc, ht⟩ := hx i (by omega)
      rw [c_pat] at hc
      obtain ⟨p, A, c, rfl, g1, g2, g3⟩ := open_patU ht (Nat.le_trans (bulks.slice_part (List.mem_map.2 ⟨i, List.mem_range.2 hi, rfl⟩)) hb)
      obtain ⟨_, _, hat⟩ := World.cells?_some hc
      have h0 := hat 0 (by decide)
      have h1 := hat 1 (by decide)
      refine ⟨⟨A, c, p⟩, fun ab ao e => ?_, ⟨g1, by show c ≤ _; omega, g3⟩, ?_⟩
      · subst e
        rw [add_plain] at h0 h1
        rw [add_plain] at h0 h1
        exact ⟨h0, h1⟩
      · have h5 : (a.add (i * 2)).add 0 = a.add (i * 2) := by simp [Addr.add]
        rw [h5] at h0
        rw [h0]
        rfl
    obtain ⟨R, hR⟩ := choose_lt each
    refine ⟨some a, (List.range len).map fun i => (R i).p, m, by simp, by simpa using hl, hcl, by simp; omega, fun h0 => ?_⟩
    have h0' : 0 < len := by simpa using h0
    obtain ⟨q0, hq0⟩ := Option.isSome_iff_exists.1 (hR 0 h0').2.2
    obtain ⟨q1, q2⟩ := cell_lt hq0
    obtain ⟨ab, ao, asp⟩ := a
    have q3 : asp = none := q2
    subst q3
    refine ⟨ab, ao, rfl, q1, fun k p hk => ?_⟩
    rw [List.getElem?_map] at hk
    obtain ⟨i, hi, rfl⟩ := Option.map_eq_some_iff.1 hk
    obtain ⟨hlt, he⟩ := List.getElem?_eq_some_iff.1 hi
    rw [List.getElem_range] at he
    subst he
    rw [List.length_range] at hlt
    obtain ⟨g1, g2, _⟩ := hR k hlt
    exact ⟨(R k).A, (R k).c, (g1 ab ao rfl).1, (g1 ab ao rfl).2, g2.1, g2.2.1, g2.2.2⟩

set_option maxRecDepth 20000 in
theorem open_entU {fuel : Nat} {cs : List Value} {x : DataW H × List MemPlace} (h : DataW.trod enc Tryz.prog w 0 (fun _ => true) true fuel 41 cs = some x) (hb : Rows.uptoBulk x.1 ≤ 1048576) :
    ∃ z : NewE, cs = encE z ∧ EntA w z := by
  obtain ⟨y0, y1, y2, n, rfl, hlen, h0, h1, h2⟩ := trod_struct3 Tryz.underlying41 h
  rw [c_ent] at hlen
  match cs, hlen with
  | [c0, c1, c2, c3, c4], _ =>
    have e0 : DataW.trod enc Tryz.prog w 0 (fun _ => true) true n 38 [c0, c1] = some y0 := by simpa [c_pat] using h0
    have e1 : DataW.trod enc Tryz.prog w 0 (fun _ => true) true n 38 [c2, c3] = some y1 := by simpa [c_pat] using h1
    have e2 : DataW.trod enc Tryz.prog w 0 (fun _ => true) true n 39 [c4] = some y2 := by simpa [c_pat, c_patsE] using h2
    obtain ⟨p1, A1, k1, g1, g2, g3, g4⟩ := open_patU e0 (Nat.le_trans (bulks.agg_part (by simp)) hb)
    obtain ⟨p2, A2, k2, j1, j2, j3, j4⟩ := open_patU e1 (Nat.le_trans (bulks.agg_part (by simp)) hb)
    obtain ⟨A3, ps, k3, l1, l2, l3, l4⟩ := open_patsU e2 (Nat.le_trans (bulks.agg_part (by simp)) hb)
    simp only [List.cons.injEq, and_true] at g1 j1 l1
    obtain ⟨rfl, rfl⟩ := g1
    obtain ⟨rfl, rfl⟩ := j1
    subst l1
    exact ⟨⟨A1, k1, A2, k2, A3, k3, ⟨p1, p2, ps⟩⟩, rfl, g4, j4, l4, g2, j2, l2, Nat.le_trans g3 (by decide), Nat.le_trans j3 (by decide), Nat.le_trans l3 (by decide)⟩

set_option maxRecDepth 20000 in
theorem open_entsU {fuel : Nat} {cs : List Value} {x : DataW H × List MemPlace} (h : DataW.trod enc Tryz.prog w 0 (fun _ => true) true fuel 22 cs = some x) (hb : Rows.uptoBulk x.1 ≤ 1048576) :
    ∃ A es c, cs = [.slice A (List.length es) c] ∧ es.length ≤ c ∧ c ≤ 1048576 ∧ EntsA w A es := by
  rcases open_slice u_ents h with ⟨rfl, rfl⟩ | ⟨a, len, cap, m, n, D, Pq, rfl, _, hl, hm, hmm, rfl, hx⟩
  · exact ⟨none, [], 0, rfl, Nat.le_refl _, by decide, by simp, [], rfl, (fun h => absurd rfl h), (fun z hz => by cases hz)⟩
  · have hmc : m = cap := hmm
    subst hmc
    have hs := bulks.slice_le ((List.range len).map D) ((List.range (m - len)).map fun j => D (len + j))
    simp only [List.length_map, List.length_range] at hs
    have hcl : m ≤ 1048576 := by
      have h2 := Nat.le_trans hs hb
      omega
    have each : ∀ i, i < len → ∃ z : NewE, (∀ ab ao, a = ⟨ab, ao, none⟩ → ∀ (j : Nat) u, (encE z)[j]? = some u → w.cell? ⟨ab, ao + i * 5 + j, none⟩ = some u) ∧ EntA w z ∧ (w.cell? (a.add (i * 5))).isSome = true := fun i hi => by
      obtain ⟨cs', hc, ht⟩ := hx i (by omega)
      rw [c_ent] at hc
      obtain ⟨z, rfl, g⟩ := open_entU ht (Nat.le_trans (bulks.slice_part (List.mem_map.2 ⟨i, List.mem_range.2 hi, rfl⟩)) hb)
      obtain ⟨_, _, hat⟩ := World.cells?_some hc
      refine ⟨z, fun ab ao e j u hu => ?_, g, ?_⟩
      · subst e
        have hj : j < (encE z).length := (List.getElem?_eq_some_iff.1 hu).1
        have h0 := hat j hj
        rw [add_plain] at h0
        rw [add_plain] at h0
        exact h0.trans hu
      · have h0 := hat 0 (by simp [encE])
        have h5 : (a.add (i * 5)).add 0 = a.add (i * 5) := by simp [Addr.add]
        rw [h5] at h0
        rw [h0]
        rfl
    obtain ⟨R, hR⟩ := choose_lt each
    refine ⟨some a, (List.range len).map fun i => (R i).e, m, by simp, by simpa using hl, hcl, by simp; omega, (List.range len).map R, by simp [List.map_map], fun h0 => ?_, fun z hz => ?_⟩
    · have h0' : 0 < len := by
        rcases Nat.eq_zero_or_pos len with e | e
        · subst e
          exact absurd rfl h0
        · exact e
      obtain ⟨q0, hq0⟩ := Option.isSome_iff_exists.1 (hR 0 h0').2.2
      obtain ⟨q1, q2⟩ := cell_lt hq0
      obtain ⟨ab, ao, asp⟩ := a
      have q3 : asp = none := q2
      subst q3
      refine ⟨ab, ao, rfl, q1, fun k z hk j u hu => ?_⟩
      rw [List.getElem?_map] at hk
      obtain ⟨i, hi, rfl⟩ := Option.map_eq_some_iff.1 hk
      obtain ⟨hlt, he⟩ := List.getElem?_eq_some_iff.1 hi
      rw [List.getElem_range] at he
      subst he
      rw [List.length_range] at hlt
      exact (hR k hlt).1 ab ao rfl j u hu
    · obtain ⟨i, hi, rfl⟩ := List.mem_map.1 hz
      exact (hR i (List.mem_range.1 hi)).2.1
set_option maxRecDepth 20000 in
theorem open_entsL {v : Value} {b0 : Nat} {d : DataW H} {p : List MemPlace} (hv : Value.okWide Tryz.prog w .any b0 22 v) (h : DataW.Trod enc Tryz.prog w 0 (fun _ => true) true 22 v d p) (hb : Rows.uptoBulk d ≤ 1048576) :
    ∃ (A : Option Addr) (es : List Ent) (c : Nat), v = .slice A es.length c ∧ EntsA w A es ∧ es.length ≤ c ∧ c ≤ 1048576 := by
  obtain ⟨a0, len, cap, rfl⟩ := okWide_slice Tryz.underlying22 hv
  obtain ⟨fuel, hf⟩ := h
  obtain ⟨A, es, c, h1, h2, h3, h4⟩ := open_entsU hf hb
  simp only [Value.cells, List.cons.injEq, and_true] at h1
  exact ⟨A, es, c, h1, h4, h2, h3⟩
end
end Go.Proofs.YteplgaabicminaaGreatDoor
