/- Streams as arguments of at most 1048576 values and letters: opened to lists. -/
import Derived.Test.YtlmclpbkhhgekaaDoorOpenU
import Derived.Test.YtlmclpbkhhgekaaDoorStrMem
set_option linter.unusedVariables false
set_option linter.unusedSimpArgs false
namespace Go.Proofs.YtlmclpbkhhgekaaDoor
open Go Go.ChangeShapes Go.WideShapes Go.RowKit Go.Deep Sy
section
variable {H : Type} {enc : TypeId × Value → H} {w : World}
theorem u_strms : Tryd.prog.underlying 22 = some (.slice 38) := Tryd.underlying22
theorem u_lines : Tryd.prog.underlying 36 = some (.slice 35) := Tryd.underlying36
theorem u_int : Tryd.prog.underlying 3 = some (.int .i64) := Tryd.underlying3
theorem c_line : Tryd.prog.cellsOf 35 = 5 := by kernel_rfl
theorem c_strm : Tryd.prog.cellsOf 38 = 3 := by kernel_rfl

set_option maxRecDepth 20000 in
theorem open_lineU {fuel : Nat} {cs : List Value} {x : DataW H × List MemPlace} (h : DataW.trod enc Tryd.prog w 0 (fun _ => true) true fuel 35 cs = some x) (hb : Rows.uptoBulk x.1 ≤ 1048576) :
    ∃ (r : Line) (a : Pl), cs = [.int .i64 r.kind, .slice a.AL r.path.parts.length a.cl, .bool r.path.rest, .slice a.AR r.frm.parts.length a.cr, .bool r.frm.rest] ∧ RuleU w a r.rule := by
  obtain ⟨y0, y1, y2, n, rfl, hlen, h0, h1, h2⟩ := trod_struct3 Tryd.underlying35 h
  rw [c_line] at hlen
  match cs, hlen with
  | [c0, c1, c2, c3, c4], _ =>
    have e0 : DataW.trod enc Tryd.prog w 0 (fun _ => true) true n 3 [c0] = some y0 := h0
    have e1 : DataW.trod enc Tryd.prog w 0 (fun _ => true) true n 33 [c1, c2] = some y1 := by simpa [c_pat] using h1
    have e2 : DataW.trod enc Tryd.prog w 0 (fun _ => true) true n 33 [c3, c4] = some y2 := by simpa [c_pat] using h2
    obtain ⟨k0, g0, _⟩ := DataW.trod_int u_int e0
    obtain ⟨p1, A1, k1, g1, g2, g3, g4⟩ := open_patU e1 (Nat.le_trans (bulks.agg_part (by simp)) hb)
    obtain ⟨p2, A2, k2, j1, j2, j3, j4⟩ := open_patU e2 (Nat.le_trans (bulks.agg_part (by simp)) hb)
    simp only [List.cons.injEq, and_true] at g0 g1 j1
    subst g0
    obtain ⟨rfl, rfl⟩ := g1
    obtain ⟨rfl, rfl⟩ := j1
    exact ⟨⟨k0, p1, p2⟩, ⟨A1, k1, A2, k2⟩, rfl, g4, j4, g2, j2, Nat.le_trans g3 (by decide), Nat.le_trans j3 (by decide)⟩

set_option maxRecDepth 20000 in
theorem open_linesU {fuel : Nat} {cs : List Value} {x : DataW H × List MemPlace} (h : DataW.trod enc Tryd.prog w 0 (fun _ => true) true fuel 36 cs = some x) (hb : Rows.uptoBulk x.1 ≤ 1048576) :
    ∃ A ls c, cs = [.slice A (List.length ls) c] ∧ ls.length ≤ c ∧ c ≤ 1048576 ∧ LinesU w A ls := by
  rcases open_slice u_lines h with ⟨rfl, rfl⟩ | ⟨a, len, cap, m, n, D, Pq, rfl, _, hl, hm, hmm, rfl, hx⟩
  · exact ⟨none, [], 0, rfl, Nat.le_refl _, by decide, by simp, (fun h0 => absurd h0 (Nat.lt_irrefl _))⟩
  · have hmc : m = cap := hmm
    subst hmc
    have hs := bulks.slice_le ((List.range len).map D) ((List.range (m - len)).map fun j => D (len + j))
    simp only [List.length_map, List.length_range] at hs
    have hcl : m ≤ 1048576 := by
      have h2 := Nat.le_trans hs hb
      omega
    have each : ∀ i, i < len → ∃ y : Line × Pl, (∀ ab ao, a = ⟨ab, ao, none⟩ → LineAt w ab (ao + i * 5) y.2 y.1) ∧ RuleU w y.2 y.1.rule ∧ (w.cell? (a.add (i * 5))).isSome = true := fun i hi => by
      obtain ⟨cs', hc, ht⟩ := hx i (by omega)
      rw [c_line] at hc
      obtain ⟨r, p, rfl, g⟩ := open_lineU ht (Nat.le_trans (bulks.slice_part (List.mem_map.2 ⟨i, List.mem_range.2 hi, rfl⟩)) hb)
      obtain ⟨_, _, hat⟩ := World.cells?_some hc
      have h0 := hat 0 (by decide)
      have h1 := hat 1 (by decide)
      have h2 := hat 2 (by decide)
      have h3 := hat 3 (by decide)
      have h4 := hat 4 (by decide)
      refine ⟨⟨r, p⟩, fun ab ao e => ?_, g, ?_⟩
      · subst e
        rw [add_plain] at h0 h1 h2 h3 h4
        rw [add_plain] at h0 h1 h2 h3 h4
        exact ⟨h0, h1, h2, h3, h4⟩
      · have h5 : (a.add (i * 5)).add 0 = a.add (i * 5) := by simp [Addr.add]
        rw [h5] at h0
        rw [h0]
        rfl
    obtain ⟨R, hR⟩ := choose_lt each
    refine ⟨some a, (List.range len).map fun i => (R i).1, m, by simp, by simpa using hl, hcl, by simp; omega, fun h0 => ?_⟩
    have h0' : 0 < len := by simpa using h0
    obtain ⟨q0, hq0⟩ := Option.isSome_iff_exists.1 (hR 0 h0').2.2
    obtain ⟨q1, q2⟩ := cell_lt hq0
    obtain ⟨ab, ao, asp⟩ := a
    have q3 : asp = none := q2
    subst q3
    refine ⟨ab, ao, rfl, q1, fun k r hk => ?_⟩
    rw [List.getElem?_map] at hk
    obtain ⟨i, hi, rfl⟩ := Option.map_eq_some_iff.1 hk
    obtain ⟨hlt, he⟩ := List.getElem?_eq_some_iff.1 hi
    rw [List.getElem_range] at he
    subst he
    rw [List.length_range] at hlt
    exact ⟨(R k).2, (hR k hlt).1 ab ao rfl, (hR k hlt).2.1⟩

set_option maxRecDepth 20000 in
theorem open_strmU {fuel : Nat} {cs : List Value} {x : DataW H × List MemPlace} (h : DataW.trod enc Tryd.prog w 0 (fun _ => true) true fuel 38 cs = some x) (hb : Rows.uptoBulk x.1 ≤ 1048576) :
    ∃ (s : Strm) (A : Option Addr) (c : Nat), cs = [.string (bs s.name), .string (bs s.parent), .slice A s.paths.length c] ∧ StrmU w A c s ∧ s.paths.length ≤ 1048576 := by
  obtain ⟨y0, y1, y2, n, rfl, hlen, h0, h1, h2⟩ := trod_struct3 Tryd.underlying38 h
  rw [c_strm] at hlen
  match cs, hlen with
  | [c0, c1, c2], _ =>
    have e0 : DataW.trod enc Tryd.prog w 0 (fun _ => true) true n 9 [c0] = some y0 := h0
    have e1 : DataW.trod enc Tryd.prog w 0 (fun _ => true) true n 9 [c1] = some y1 := h1
    have e2 : DataW.trod enc Tryd.prog w 0 (fun _ => true) true n 36 [c2] = some y2 := h2
    obtain ⟨s0, g0, rfl, _⟩ := DataW.trod_string u_str e0
    obtain ⟨s1, g1, rfl, _⟩ := DataW.trod_string u_str e1
    obtain ⟨A, ls, c, j1, j2, j3, j4⟩ := open_linesU e2 (Nat.le_trans (bulks.agg_part (by simp)) hb)
    simp only [List.cons.injEq, and_true] at g0 g1 j1
    subst g0
    subst g1
    subst j1
    have b0 := Nat.le_trans (bulks.agg_part (d := DataW.lit (H := H) (.string s0.data.toList)) (parts := [DataW.lit (.string s0.data.toList), DataW.lit (.string s1.data.toList), y2.1]) (by simp)) hb
    have b1 := Nat.le_trans (bulks.agg_part (d := DataW.lit (H := H) (.string s1.data.toList)) (parts := [DataW.lit (.string s0.data.toList), DataW.lit (.string s1.data.toList), y2.1]) (by simp)) hb
    rw [bulks.string_eq] at b0 b1
    exact ⟨⟨s0.data.toList, s1.data.toList, ls⟩, A, c, by simp only [bs_eta], ⟨by show s0.data.toList.length ≤ _; omega, by show s1.data.toList.length ≤ _; omega, j4, j2, Nat.le_trans j3 (by decide)⟩, Nat.le_trans j2 j3⟩

set_option maxRecDepth 20000 in
theorem open_strmsU {fuel : Nat} {cs : List Value} {x : DataW H × List MemPlace} (h : DataW.trod enc Tryd.prog w 0 (fun _ => true) true fuel 22 cs = some x) (hb : Rows.uptoBulk x.1 ≤ 1048576) :
    ∃ A ss c, cs = [.slice A (List.length ss) c] ∧ ss.length ≤ c ∧ c ≤ 1048576 ∧ StrmsU w A ss ∧ ∀ t ∈ ss, t.paths.length ≤ 1048576 := by
  rcases open_slice u_strms h with ⟨rfl, rfl⟩ | ⟨a, len, cap, m, n, D, Pq, rfl, _, hl, hm, hmm, rfl, hx⟩
  · exact ⟨none, [], 0, rfl, Nat.le_refl _, by decide, ⟨by simp, (fun h0 => absurd h0 (Nat.lt_irrefl _))⟩, (fun t ht => by cases ht)⟩
  · have hmc : m = cap := hmm
    subst hmc
    have hs := bulks.slice_le ((List.range len).map D) ((List.range (m - len)).map fun j => D (len + j))
    simp only [List.length_map, List.length_range] at hs
    have hcl : m ≤ 1048576 := by
      have h2 := Nat.le_trans hs hb
      omega
    have each : ∀ i, i < len → ∃ y : Strm × Option Addr × Nat, (∀ ab ao, a = ⟨ab, ao, none⟩ → StrmAt w ab (ao + i * 3) y.2.1 y.2.2 y.1) ∧ StrmU w y.2.1 y.2.2 y.1 ∧ (w.cell? (a.add (i * 3))).isSome = true ∧ y.1.paths.length ≤ 1048576 := fun i hi => by
      obtain ⟨cs', hc, ht⟩ := hx i (by omega)
      rw [c_strm] at hc
      obtain ⟨r, A, c, rfl, g⟩ := open_strmU ht (Nat.le_trans (bulks.slice_part (List.mem_map.2 ⟨i, List.mem_range.2 hi, rfl⟩)) hb)
      obtain ⟨_, _, hat⟩ := World.cells?_some hc
      have h0 := hat 0 (by decide)
      have h1 := hat 1 (by decide)
      have h2 := hat 2 (by decide)
      refine ⟨⟨r, A, c⟩, fun ab ao e => ?_, g.1, ?_, g.2⟩
      · subst e
        rw [add_plain] at h0 h1 h2
        rw [add_plain] at h0 h1 h2
        exact ⟨h0, h1, h2⟩
      · have h5 : (a.add (i * 3)).add 0 = a.add (i * 3) := by simp [Addr.add]
        rw [h5] at h0
        rw [h0]
        rfl
    obtain ⟨R, hR⟩ := choose_lt each
    refine ⟨some a, (List.range len).map fun i => (R i).1, m, by simp, by simpa using hl, hcl, ⟨by simp; omega, fun h0 => ?_⟩, fun t ht => by
      obtain ⟨i, hi, rfl⟩ := List.mem_map.1 ht
      exact (hR i (List.mem_range.1 hi)).2.2.2⟩
    have h0' : 0 < len := by simpa using h0
    obtain ⟨q0, hq0⟩ := Option.isSome_iff_exists.1 (hR 0 h0').2.2.1
    obtain ⟨q1, q2⟩ := cell_lt hq0
    obtain ⟨ab, ao, asp⟩ := a
    have q3 : asp = none := q2
    subst q3
    refine ⟨ab, ao, rfl, q1, fun k r hk => ?_⟩
    rw [List.getElem?_map] at hk
    obtain ⟨i, hi, rfl⟩ := Option.map_eq_some_iff.1 hk
    obtain ⟨hlt, he⟩ := List.getElem?_eq_some_iff.1 hi
    rw [List.getElem_range] at he
    subst he
    rw [List.length_range] at hlt
    exact ⟨(R k).2.1, (R k).2.2, (hR k hlt).1 ab ao rfl, (hR k hlt).2.1⟩

set_option maxRecDepth 20000 in
theorem open_strmsL {v : Value} {b0 : Nat} {d : DataW H} {p : List MemPlace} (hv : Value.okWide Tryd.prog w .any b0 22 v) (h : DataW.Trod enc Tryd.prog w 0 (fun _ => true) true 22 v d p) (hb : Rows.uptoBulk d ≤ 1048576) :
    ∃ (A : Option Addr) (ss : List Strm) (c : Nat), v = .slice A ss.length c ∧ StrmsU w A ss ∧ ss.length ≤ c ∧ c ≤ 1048576 ∧ ∀ t ∈ ss, t.paths.length ≤ 1048576 := by
  obtain ⟨a0, len, cap, rfl⟩ := okWide_slice Tryd.underlying22 hv
  obtain ⟨fuel, hf⟩ := h
  obtain ⟨A, ss, c, h1, h2, h3, h4, h5⟩ := open_strmsU hf hb
  simp only [Value.cells, List.cons.injEq, and_true] at h1
  exact ⟨A, ss, c, h1, h4, h2, h3, h5⟩
set_option maxRecDepth 20000 in
theorem open_lineL {v : Value} {b0 : Nat} {d : DataW H} {p : List MemPlace} (hv : Value.okWide Tryd.prog w .any b0 35 v) (h : DataW.Trod enc Tryd.prog w 0 (fun _ => true) true 35 v d p) (hb : Rows.uptoBulk d ≤ 1048576) :
    ∃ (r : Line) (a : Pl), v = lineV a r ∧ RuleU w a r.rule := by
  obtain ⟨cs, rfl, hsz⟩ := okWide_struct Tryd.underlying35 hv
  obtain ⟨fuel, hf⟩ := h
  obtain ⟨l⟩ := cs
  obtain ⟨r, a, h1, h2⟩ := open_lineU hf hb
  simp only [Value.cells] at h1
  exact ⟨r, a, by rw [show l = _ from h1]; rfl, h2⟩
end
end Go.Proofs.YtlmclpbkhhgekaaDoor
