/- Lines and views as arguments of at most 1048576 values and letters: opened to lists. -/
import Derived.Test.YtoaelfdkamgdaaaDoorOpen
import Derived.Test.YtoaelfdkamgdaaaDoorBulk
import Derived.Test.YtoaelfdkamgdaaaDoorRuleMem
set_option linter.unusedVariables false
set_option linter.unusedSimpArgs false
namespace Go.Proofs.YtoaelfdkamgdaaaDoor
open Go Go.ChangeShapes Go.WideShapes Go.RowKit Go.Deep Sy
section
variable {H : Type} {enc : TypeId × Value → H} {w : World}
theorem u_rules : Tryd.prog.underlying 22 = some (.slice 27) := Tryd.underlying22
theorem c_rule : Tryd.prog.cellsOf 27 = 5 := by kernel_rfl

set_option maxRecDepth 20000 in
theorem open_strU {fuel : Nat} {cs : List Value} {x : DataW H × List MemPlace} (h : DataW.trod enc Tryd.prog w 0 (fun _ => true) true fuel 23 cs = some x) (hb : Rows.uptoBulk x.1 ≤ 1048576) :
    ∃ A ls c, cs = [.slice A (List.length ls) c] ∧ ls.length ≤ c ∧ c ≤ 140737488355328 ∧ StrsU w A ls := by
  rcases open_strs u_strs u_str c_str h with ⟨rfl, rfl⟩ | ⟨a, len, cap, m, Sx, rfl, _, hl, hm, hmm, rfl, hx⟩
  · exact ⟨none, [], 0, rfl, Nat.le_refl _, by decide, by simp, (fun l hl => by cases hl), (fun h0 => absurd h0 (Nat.lt_irrefl _))⟩
  · have hmc : m = cap := hmm
    subst hmc
    have hs := bulks.slice_le ((List.range len).map fun i => DataW.lit (H := H) (.string (Sx i).data.toList)) ((List.range (m - len)).map fun j => .lit (.string (Sx (len + j)).data.toList))
    simp only [List.length_map, List.length_range] at hs
    have heach : ∀ i, i < len → (Sx i).data.toList.length ≤ 1048576 := fun i hi => by
      have h1 := bulks.slice_part (spare := (List.range (m - len)).map fun j => DataW.lit (H := H) (.string (Sx (len + j)).data.toList)) (List.mem_map.2 ⟨i, List.mem_range.2 hi, rfl⟩ : DataW.lit (H := H) (.string (Sx i).data.toList) ∈ (List.range len).map fun i => DataW.lit (H := H) (.string (Sx i).data.toList))
      rw [bulks.string_eq] at h1
      have h2 := Nat.le_trans h1 hb
      omega
    have hcl : m ≤ 1048576 := by
      have h2 := Nat.le_trans hs hb
      omega
    refine ⟨some a, (List.range len).map fun i => (Sx i).data.toList, m, by simp, by simpa using hl, by omega, by simp; omega, fun l hl2 => ?_, fun h0 => ?_⟩
    · obtain ⟨i, hi, rfl⟩ := List.mem_map.1 hl2
      exact heach i (List.mem_range.1 hi)
    · have h0' : 0 < len := by simpa using h0
      obtain ⟨q1, q2⟩ := cell_lt (hx 0 (by omega)).1
      obtain ⟨ab, ao, asp⟩ := a
      have q3 : asp = none := q2
      subst q3
      refine ⟨ab, ao, rfl, q1, fun k l hk => ?_⟩
      rw [List.getElem?_map] at hk
      obtain ⟨i, hi, rfl⟩ := Option.map_eq_some_iff.1 hk
      obtain ⟨hlt, he⟩ := List.getElem?_eq_some_iff.1 hi
      rw [List.getElem_range] at he
      subst he
      rw [List.length_range] at hlt
      have := (hx k (by omega)).1
      rw [add_plain] at this
      rw [this, bs_eta]

set_option maxRecDepth 20000 in
theorem open_patU {fuel : Nat} {cs : List Value} {x : DataW H × List MemPlace} (h : DataW.trod enc Tryd.prog w 0 (fun _ => true) true fuel 25 cs = some x) (hb : Rows.uptoBulk x.1 ≤ 1048576) :
    ∃ (p : Pat) (A : Option Addr) (c : Nat), cs = [.slice A p.parts.length c, .bool p.rest] ∧ p.parts.length ≤ c ∧ c ≤ 140737488355328 ∧ StrsU w A p.parts := by
  obtain ⟨y0, y1, n, rfl, hlen, h0, h1⟩ := trod_struct2 Tryd.underlying25 h
  rw [c_pat] at hlen
  match cs, hlen with
  | [c0, c1], _ =>
    have e0 : DataW.trod enc Tryd.prog w 0 (fun _ => true) true n 23 [c0] = some y0 := h0
    have e1 : DataW.trod enc Tryd.prog w 0 (fun _ => true) true n 4 [c1] = some y1 := h1
    obtain ⟨A, ls, c, g1, g2, g3, g4⟩ := open_strU e0 (Nat.le_trans (bulks.agg_part (by simp)) hb)
    obtain ⟨r, g5, _⟩ := DataW.trod_bool u_bool e1
    simp only [List.cons.injEq, and_true] at g1 g5
    subst g1
    subst g5
    exact ⟨⟨ls, r⟩, A, c, rfl, g2, g3, g4⟩

set_option maxRecDepth 20000 in
theorem open_ruleU {fuel : Nat} {cs : List Value} {x : DataW H × List MemPlace} (h : DataW.trod enc Tryd.prog w 0 (fun _ => true) true fuel 27 cs = some x) (hb : Rows.uptoBulk x.1 ≤ 1048576) :
    ∃ (r : Rule) (a : Pl), cs = [.bool r.excl, .slice a.AL r.left.parts.length a.cl, .bool r.left.rest, .slice a.AR r.right.parts.length a.cr, .bool r.right.rest] ∧ RuleU w a r := by
  obtain ⟨y0, y1, y2, n, rfl, hlen, h0, h1, h2⟩ := trod_struct3 Tryd.underlying27 h
  rw [c_rule] at hlen
  match cs, hlen with
  | [c0, c1, c2, c3, c4], _ =>
    have e0 : DataW.trod enc Tryd.prog w 0 (fun _ => true) true n 4 [c0] = some y0 := h0
    have e1 : DataW.trod enc Tryd.prog w 0 (fun _ => true) true n 25 [c1, c2] = some y1 := by simpa [c_pat] using h1
    have e2 : DataW.trod enc Tryd.prog w 0 (fun _ => true) true n 25 [c3, c4] = some y2 := by simpa [c_pat] using h2
    obtain ⟨r0, g0, _⟩ := DataW.trod_bool u_bool e0
    obtain ⟨p1, A1, k1, g1, g2, g3, g4⟩ := open_patU e1 (Nat.le_trans (bulks.agg_part (by simp)) hb)
    obtain ⟨p2, A2, k2, j1, j2, j3, j4⟩ := open_patU e2 (Nat.le_trans (bulks.agg_part (by simp)) hb)
    simp only [List.cons.injEq, and_true] at g0 g1 j1
    subst g0
    obtain ⟨rfl, rfl⟩ := g1
    obtain ⟨rfl, rfl⟩ := j1
    exact ⟨⟨r0, p1, p2⟩, ⟨A1, k1, A2, k2⟩, rfl, g4, j4, g2, j2, Nat.le_trans g3 (by decide), Nat.le_trans j3 (by decide)⟩

set_option maxRecDepth 20000 in
theorem open_rulesU {fuel : Nat} {cs : List Value} {x : DataW H × List MemPlace} (h : DataW.trod enc Tryd.prog w 0 (fun _ => true) true fuel 22 cs = some x) (hb : Rows.uptoBulk x.1 ≤ 1048576) :
    ∃ A rs c, cs = [.slice A (List.length rs) c] ∧ rs.length ≤ c ∧ c ≤ 1048576 ∧ RulesU w A rs := by
  rcases open_slice u_rules h with ⟨rfl, rfl⟩ | ⟨a, len, cap, m, n, D, Pq, rfl, _, hl, hm, hmm, rfl, hx⟩
  · exact ⟨none, [], 0, rfl, Nat.le_refl _, by decide, by simp, (fun h0 => absurd h0 (Nat.lt_irrefl _))⟩
  · have hmc : m = cap := hmm
    subst hmc
    have hs := bulks.slice_le ((List.range len).map D) ((List.range (m - len)).map fun j => D (len + j))
    simp only [List.length_map, List.length_range] at hs
    have hcl : m ≤ 1048576 := by
      have h2 := Nat.le_trans hs hb
      omega
    have each : ∀ i, i < len → ∃ y : Rule × Pl, (∀ ab ao, a = ⟨ab, ao, none⟩ → RuleAt w ab (ao + i * 5) y.2 y.1) ∧ RuleU w y.2 y.1 ∧ (w.cell? (a.add (i * 5))).isSome = true := fun i hi => by
      obtain ⟨cs', hc, ht⟩ := hx i (by omega)
      rw [c_rule] at hc
      obtain ⟨r, p, rfl, g⟩ := open_ruleU ht (Nat.le_trans (bulks.slice_part (List.mem_map.2 ⟨i, List.mem_range.2 hi, rfl⟩)) hb)
      obtain ⟨_, _, hat⟩ := World.cells?_some hc
      have h0 := hat 0 (by decide)
      have h1 := hat 1 (by decide)
      have h2 := hat 2 (by decide)
      have h3 := hat 3 (by decide)
      have h4 := hat 4 (by decide)
      refine ⟨⟨r, p⟩, fun ab ao e => ?_, g, ?_⟩
      · subst e
        rw [add_plain] at h0 h1 h2 h3 h4
        rw [add_plain] at h0 h1 h2 h3 h4
        exact ⟨h0, h1, h2, h3, h4⟩
      · have h5 : (a.add (i * 5)).add 0 = a.add (i * 5) := by simp [Addr.add]
        rw [h5] at h0
        rw [h0]
        rfl
    obtain ⟨R, hR⟩ := choose_lt each
    refine ⟨some a, (List.range len).map fun i => (R i).1, m, by simp, by simpa using hl, hcl, by simp; omega, fun h0 => ?_⟩
    have h0' : 0 < len := by simpa using h0
    obtain ⟨q0, hq0⟩ := Option.isSome_iff_exists.1 (hR 0 h0').2.2
    obtain ⟨q1, q2⟩ := cell_lt hq0
    obtain ⟨ab, ao, asp⟩ := a
    have q3 : asp = none := q2
    subst q3
    refine ⟨ab, ao, rfl, q1, fun k r hk => ?_⟩
    rw [List.getElem?_map] at hk
    obtain ⟨i, hi, rfl⟩ := Option.map_eq_some_iff.1 hk
    obtain ⟨hlt, he⟩ := List.getElem?_eq_some_iff.1 hi
    rw [List.getElem_range] at he
    subst he
    rw [List.length_range] at hlt
    exact ⟨(R k).2, (hR k hlt).1 ab ao rfl, (hR k hlt).2.1⟩

set_option maxRecDepth 20000 in
theorem open_rulesL {v : Value} {b0 : Nat} {d : DataW H} {p : List MemPlace} (hv : Value.okWide Tryd.prog w .any b0 22 v) (h : DataW.Trod enc Tryd.prog w 0 (fun _ => true) true 22 v d p) (hb : Rows.uptoBulk d ≤ 1048576) :
    ∃ (A : Option Addr) (rs : List Rule) (c : Nat), v = .slice A rs.length c ∧ RulesU w A rs ∧ rs.length ≤ c ∧ c ≤ 1048576 := by
  obtain ⟨a0, len, cap, rfl⟩ := okWide_slice Tryd.underlying22 hv
  obtain ⟨fuel, hf⟩ := h
  obtain ⟨A, rs, c, h1, h2, h3, h4⟩ := open_rulesU hf hb
  simp only [Value.cells, List.cons.injEq, and_true] at h1
  exact ⟨A, rs, c, h1, h4, h2, h3⟩
set_option maxRecDepth 20000 in
theorem open_ruleL {v : Value} {b0 : Nat} {d : DataW H} {p : List MemPlace} (hv : Value.okWide Tryd.prog w .any b0 27 v) (h : DataW.Trod enc Tryd.prog w 0 (fun _ => true) true 27 v d p) (hb : Rows.uptoBulk d ≤ 1048576) :
    ∃ (r : Rule) (a : Pl), v = ruleV a r ∧ RuleU w a r := by
  obtain ⟨cs, rfl, hsz⟩ := okWide_struct Tryd.underlying27 hv
  obtain ⟨fuel, hf⟩ := h
  obtain ⟨l⟩ := cs
  obtain ⟨r, a, h1, h2⟩ := open_ruleU hf hb
  simp only [Value.cells] at h1
  exact ⟨r, a, by rw [show l = _ from h1]; rfl, h2⟩
end
end Go.Proofs.YtoaelfdkamgdaaaDoor
