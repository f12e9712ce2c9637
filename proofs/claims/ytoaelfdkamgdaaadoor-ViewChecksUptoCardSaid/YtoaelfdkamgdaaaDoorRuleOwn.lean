/- Rows of lines of the call's own: appends. -/
import Derived.Test.YtoaelfdkamgdaaaDoorAwakeV
set_option linter.unusedVariables false
set_option linter.unusedSimpArgs false
namespace Go.Proofs.YtoaelfdkamgdaaaDoor
open Go Go.RowKit Sy

theorem info_rule : (Tryd.prog.info? 27).map (fun i => (i.zero, i.size, i.bytes)) = some (some (.agg #[.bool false, .slice none 0 0, .bool false, .slice none 0 0, .bool false]), 5, 72) := by kernel_rfl

def cell5 (x : Pl × Rule) : List Value := [.bool x.2.excl, .slice x.1.AL x.2.left.parts.length x.1.cl, .bool x.2.left.rest, .slice x.1.AR x.2.right.parts.length x.1.cr, .bool x.2.right.rest]
def cells5 : List (Pl × Rule) → List Value
  | [] => []
  | x :: t => cell5 x ++ cells5 t
theorem cells5_len : ∀ l : List (Pl × Rule), (cells5 l).length = l.length * 5
  | [] => rfl
  | x :: t => by
    rw [cells5, List.length_append, cells5_len t, List.length_cons, Nat.succ_mul, Nat.add_comm]
    rfl
theorem cells5_app : ∀ l m : List (Pl × Rule), cells5 (l ++ m) = cells5 l ++ cells5 m
  | [], m => rfl
  | x :: t, m => by
    rw [List.cons_append, cells5, cells5, cells5_app t m, List.append_assoc]
theorem cells5_get : ∀ (l : List (Pl × Rule)) (j : Nat) (u : Value), (cells5 l)[j]? = some u → ∃ k x i, l[k]? = some x ∧ i < 5 ∧ j = k * 5 + i ∧ (cell5 x)[i]? = some u
  | [], j, u, h => by simp [cells5] at h
  | x :: t, j, u, h => by
    rw [cells5] at h
    by_cases hj : j < 5
    · rw [List.getElem?_append_left (by exact hj)] at h
      exact ⟨0, x, j, rfl, hj, by omega, h⟩
    · rw [List.getElem?_append_right (by show 5 ≤ j; omega)] at h
      obtain ⟨k, y, i, h1, h2, h3, h4⟩ := cells5_get t (j - 5) u h
      exact ⟨k + 1, y, i, by simpa using h1, h2, by omega, h4⟩
theorem cells5_at : ∀ (l : List (Pl × Rule)) (k i : Nat) (x : Pl × Rule), l[k]? = some x → i < 5 → (cells5 l)[k * 5 + i]? = (cell5 x)[i]?
  | [], k, i, x, h, _ => by simp at h
  | y :: t, 0, i, x, h, hi => by
    simp only [List.getElem?_cons_zero, Option.some.injEq] at h
    subst h
    rw [cells5, Nat.zero_mul, Nat.zero_add, List.getElem?_append_left (by exact hi)]
  | y :: t, k + 1, i, x, h, hi => by
    rw [cells5, List.getElem?_append_right (by show 5 ≤ _; omega)]
    have := cells5_at t k i x (by simpa using h) hi
    rw [← this]
    congr 1
    show (k + 1) * 5 + i - 5 = _
    omega
theorem cell5_one {x : Pl × Rule} {i : Nat} {u : Value} (h : (cell5 x)[i]? = some u) : u.oneCell' = true := by
  match i, h with
  | 0, h => cases h; rfl
  | 1, h => cases h; rfl
  | 2, h => cases h; rfl
  | 3, h => cases h; rfl
  | 4, h => cases h; rfl
  | i + 5, h => simp [cell5] at h

/-- A slice of lines as cells, and where each line's sides lie. -/
theorem RulesU.cells {w : World} {A : Option Addr} {rs : List Rule} (h : RulesU w A rs) : ∃ l : List (Pl × Rule), l.map (·.2) = rs ∧ (∀ x ∈ l, RuleU w x.1 x.2) ∧ (l ≠ [] → ∃ b o, A = some ⟨b, o, none⟩ ∧ ∀ j u, (cells5 l)[j]? = some u → w.cell? ⟨b, o + j, none⟩ = some u) := by
  by_cases h0 : 0 < rs.length
  · obtain ⟨b, o, hA, hb, hk⟩ := h.at_ h0
    have hch : ∀ k : Fin rs.length, ∃ a, RuleAt w b (o + k * 5) a rs[k] ∧ RuleU w a rs[k] := fun k => hk k rs[k] (List.getElem?_eq_getElem k.2)
    refine ⟨(List.finRange rs.length).map fun k => ((hch k).choose, rs[k]), ?_, ?_, fun _ => ⟨b, o, hA, fun j u hj => ?_⟩⟩
    · rw [List.map_map]
      apply List.ext_getElem
      · simp
      · intro i h1 h2
        simp
    · intro x hx
      obtain ⟨k, _, rfl⟩ := List.mem_map.1 hx
      exact (hch k).choose_spec.2
    · obtain ⟨k, x, i, h1, h2, rfl, h4⟩ := cells5_get _ j u hj
      rw [List.getElem?_map] at h1
      obtain ⟨q, hq, rfl⟩ := Option.map_eq_some_iff.1 h1
      obtain ⟨hlt, he⟩ := List.getElem?_eq_some_iff.1 hq
      have hqk : (q : Nat) = k := by rw [← he]; simp
      have hat := (hch q).choose_spec.1
      subst hqk
      match i, h4 with
      | 0, h4 => cases h4; exact hat.c0
      | 1, h4 => cases h4; exact hat.c1
      | 2, h4 => cases h4; exact hat.c2
      | 3, h4 => cases h4; exact hat.c3
      | 4, h4 => cases h4; exact hat.c4
      | i + 5, h4 => omega
  · have : rs = [] := List.eq_nil_of_length_eq_zero (by omega)
    subst this
    exact ⟨([] : List (Pl × Rule)), rfl, fun x hx => absurd hx List.not_mem_nil, fun h => absurd rfl h⟩

structure OwnR (w0 w : World) (v : Value) (l : List (Pl × Rule)) : Prop where
  calm : Calm w0 w
  own : w.ownsRow w0.heap.size 27 5 v l.length (cells5 l)
theorem OwnR.nil {w0 w : World} (h : Calm w0 w) : OwnR w0 w (.slice none 0 0) [] := ⟨h, World.ownsRow_nil _ _ _ _⟩
theorem OwnR.to {w0 w w' : World} {v : Value} {l : List (Pl × Rule)} (h : OwnR w0 w v l) (hc : Calm w w') : OwnR w0 w' v l := ⟨h.calm.trans hc, owns_calm h.own hc⟩
theorem OwnR.rules {w0 w : World} {v : Value} {l : List (Pl × Rule)} (h : OwnR w0 w v l) (hl : l.length ≤ 1048577) (hu : ∀ x ∈ l, RuleU w x.1 x.2) : ∃ A c, v = .slice A l.length c ∧ RulesU w A (l.map (·.2)) := by
  have hlen : (l.map (·.2)).length = l.length := List.length_map _
  rcases h.own.2 with ⟨rfl, h0⟩ | ⟨g, cap, cur, rfl, hg, hh, hcap, hm, hs, ht⟩
  · exact ⟨none, 0, by rw [h0], by rw [hlen]; exact hl, fun h => by rw [hlen, h0] at h; omega⟩
  · have hlt : g < w.heap.size := by
      rcases Nat.lt_or_ge g w.heap.size with h | h
      · exact h
      · rw [Array.getElem?_eq_none h] at hh; cases hh
    refine ⟨_, cap, rfl, by rw [hlen]; exact hl, fun _ => ⟨g, 0, rfl, hlt, fun k r hr => ?_⟩⟩
    rw [List.getElem?_map] at hr
    obtain ⟨x, hx, rfl⟩ := Option.map_eq_some_iff.1 hr
    have hc : ∀ i u, i < 5 → (cell5 x)[i]? = some u → w.cell? ⟨g, 0 + k * 5 + i, none⟩ = some u := fun i u hi hu => by
      have h1 := h.own.cells (g := g) rfl (k * 5 + i) u (by rw [cells5_at l k i x hx hi]; exact hu)
      simpa [Addr.add_lit] using h1
    exact ⟨x.1, ⟨hc 0 _ (by omega) rfl, hc 1 _ (by omega) rfl, hc 2 _ (by omega) rfl, hc 3 _ (by omega) rfl, hc 4 _ (by omega) rfl⟩, hu x (List.mem_of_getElem? hx)⟩

theorem run_append_rules {w w0 : World} (ty : TypeId) {v : Value} {l news : List (Pl × Rule)} {AX : Option Addr} {m c : Nat} (hown : OwnR w0 w v l) (hm : news.length = m)
    (hrd : news ≠ [] → ∃ b o, AX = some ⟨b, o, none⟩ ∧ ∀ j u, (cells5 news)[j]? = some u → w.cell? ⟨b, o + j, none⟩ = some u) (hl : l.length + m ≤ 1100000) :
    ∃ v' w', (Builtin.append_ #[22, 22] ty #[v, .slice AX m c]).run Tryd.prog w = .ok v' w' ∧ OwnR w0 w' v' (l ++ news) := by
  obtain ⟨i0, hi0, hz0, hz1, hz2⟩ := info_parts info_rule
  cases AX with
  | none =>
    have h0 : news = [] := Classical.byContradiction fun hne => by
      obtain ⟨b, o, hA, _⟩ := hrd hne
      cases hA
    subst h0
    obtain rfl : 0 = m := by simpa using hm
    refine ⟨v, w, ?_, by rw [List.append_nil]; exact hown⟩
    rcases hown.own.2 with ⟨rfl, h1⟩ | ⟨g, cap, cur, rfl, _, _, hnc, _⟩
    · simp [Builtin.append_, run_underlying Tryd.underlying22, sizeOf, typeInfo, hi0, Builtin.lenOf, Builtin.firstCells]
    · simp [Builtin.append_, run_underlying Tryd.underlying22, sizeOf, typeInfo, hi0, Builtin.lenOf, Builtin.firstCells, hnc, storeCells]
  | some ad =>
    have hnews : ∀ (j : Nat) (u : Value), (cells5 news)[j]? = some u → w.cell? (ad.add j) = some u := fun j u hj => by
      have hne : news ≠ [] := by
        rintro rfl
        simp [cells5] at hj
      obtain ⟨b, o, hA, hk⟩ := hrd hne
      obtain rfl := Option.some.inj hA
      simpa [Addr.add_lit] using hk j u hj
    have h1 : ∀ u ∈ cells5 news, u.oneCell' = true := fun u hu => by
      obtain ⟨j, hj, e⟩ := List.mem_iff_getElem.1 hu
      obtain ⟨k, x, i, _, _, _, h4⟩ := cells5_get news j u (by rw [← e]; exact List.getElem?_eq_getElem hj)
      exact cell5_one h4
    obtain ⟨v', w', hr, h2, h3, _⟩ := run_append_own (P := Tryd.prog) w w0.heap.size 22 ty 27 i0 _ 5 72 Tryd.underlying22 hi0 hz0 hz1 hz2 rfl (by decide) v l.length (cells5 l) hown.own ad m c (cells5 news) (by rw [cells5_len, hm]) hnews h1 (by unfold maxLen; omega) (by omega) hown.calm.size
    exact ⟨v', w', hr, Below.trans hown.calm (owns_below hown.own hown.calm.size h3), by rw [List.length_append, hm, cells5_app]; exact h2⟩

theorem wpList_append_rules {ops : Array Oper} {rest : List Oper} {o : Oper} {a : Act} {Q : Exit → Act → World → Prop} {w : World} (hgd : o.guard = none) (s x : Operand)
    (ho : o.op = .call { callee := .builtin .append, args := #[s, x], argTypes := #[22, 22] }) (w0 : World) (v : Value) (l : List (Pl × Rule)) (hs : a.eval s = v) (hown : OwnR w0 w v l)
    (AX : Option Addr) (m c : Nat) (hx : a.eval x = .slice AX m c) (news : List (Pl × Rule)) (hm : news.length = m)
    (hrd : news ≠ [] → ∃ b o, AX = some ⟨b, o, none⟩ ∧ ∀ j u, (cells5 news)[j]? = some u → w.cell? ⟨b, o + j, none⟩ = some u) (hl : l.length + m ≤ 1100000)
    (h : ∀ v' w', OwnR w0 w' v' (l ++ news) → wpList Tryd.prog ops Q rest (a.put o.dst v') w') : wpList Tryd.prog ops Q (o :: rest) a w := by
  refine wpList_plain hgd fun _ hK => ?_
  obtain ⟨v', w', hr, h2⟩ := run_append_rules o.type (c := c) hown hm hrd hl
  unfold Oper.wp execOp
  simp only [ho, resolve, invoke, builtin, Sem.run_bind, Sem.run_pure, Result.andThen_ok, List.map_toArray, List.map_cons, List.map_nil, hs, hx]
  rw [hr]
  exact hK _ _ (h v' w' h2)
theorem step_app_rules {ops : Array Oper} {o : Oper} {a : Act} {w : World} {K : Act → World → Prop} {Q : Exit → Act → World → Prop} {E : Prop}
    (hg : o.guard = none) (s x : Operand) (hop : o.op = Op.call { callee := Callee.builtin Builtin.append, args := #[s, x], argTypes := #[22, 22] })
    (w0 : World) (v : Value) (l : List (Pl × Rule)) (hs : a.eval s = v) (hown : OwnR w0 w v l) (AX : Option Addr) (m c : Nat) (hx : a.eval x = .slice AX m c) (news : List (Pl × Rule)) (hm : news.length = m)
    (hrd : news ≠ [] → ∃ b o, AX = some ⟨b, o, none⟩ ∧ ∀ j u, (cells5 news)[j]? = some u → w.cell? ⟨b, o + j, none⟩ = some u) (hl : l.length + m ≤ 1100000)
    (hK : ∀ v' w', OwnR w0 w' v' (l ++ news) → K (a.put o.dst v') w') :
    if Region.wanted o (yielded ops a.tmps) = true then Oper.wp Tryd.prog o a w K Q else E := by
  have hw : Region.wanted o (yielded ops a.tmps) = true := by simp [Region.wanted, hg]
  rw [if_pos hw]
  obtain ⟨v', w', hr, h2⟩ := run_append_rules o.type (c := c) hown hm hrd hl
  unfold Oper.wp
  simp [execOp, hop, resolve, invoke, builtin, hs, hx, Result.andThen]
  rw [hr]
  exact hK v' w' h2
/-- One line, new laid. -/
theorem one_new {w : World} {n : Nat} (x : Pl × Rule) (h : w.heap.size = n) : [x] ≠ [] → ∃ b o, (some ⟨n, 0, none⟩ : Option Addr) = some ⟨b, o, none⟩ ∧ ∀ j u, (cells5 [x])[j]? = some u → (w.alloc (.cells #[.bool x.2.excl, .slice x.1.AL x.2.left.parts.length x.1.cl, .bool x.2.left.rest, .slice x.1.AR x.2.right.parts.length x.1.cr, .bool x.2.right.rest] 27)).cell? ⟨b, o + j, none⟩ = some u := fun _ => by
  refine ⟨n, 0, rfl, fun j u hj => ?_⟩
  subst h
  rw [Nat.zero_add, cell_of_row _ w.heap.size j _ _ _ (heap_alloc_new w _)]
  simpa [cells5, cell5] using hj
theorem one_kept {w w' : World} {n : Nat} (x : Pl × Rule) (h : w.heap.size = n) (hc : Calm (w.alloc (.cells #[.bool x.2.excl, .slice x.1.AL x.2.left.parts.length x.1.cl, .bool x.2.left.rest, .slice x.1.AR x.2.right.parts.length x.1.cr, .bool x.2.right.rest] 27)) w') : [x] ≠ [] → ∃ b o, (some ⟨n, 0, none⟩ : Option Addr) = some ⟨b, o, none⟩ ∧ ∀ j u, (cells5 [x])[j]? = some u → w'.cell? ⟨b, o + j, none⟩ = some u := fun hne => by
  obtain ⟨b, o, hA, hk⟩ := one_new x h hne
  obtain ⟨rfl, rfl⟩ : n = b ∧ 0 = o := by simpa using hA
  refine ⟨n, 0, rfl, fun j u hj => (hc.cell ?_).trans (hk j u hj)⟩
  show n < _
  simp
  omega
theorem OwnR.one {w : World} {n : Nat} (x : Pl × Rule) (h : w.heap.size = n) : OwnR w (w.alloc (.cells #[.bool x.2.excl, .slice x.1.AL x.2.left.parts.length x.1.cl, .bool x.2.left.rest, .slice x.1.AR x.2.right.parts.length x.1.cr, .bool x.2.right.rest] 27)) (.slice (some ⟨n, 0, none⟩) 1 1) [x] := by
  subst h
  refine ⟨(Calm.refl w).alloc _, ?_⟩
  have := World.ownsRow_lit (base := w.heap.size) (e := 27) (size := 5) w #[.bool x.2.excl, .slice x.1.AL x.2.left.parts.length x.1.cl, .bool x.2.left.rest, .slice x.1.AR x.2.right.parts.length x.1.cr, .bool x.2.right.rest] 1 (Nat.le_refl _) (by decide) rfl
  simpa [cells5, cell5] using this
theorem matches_c (p : Pat) (s : Str) (y : Bool) (A : Option Addr) (c : Nat) (w : World) (hs : s.length ≤ 10000) (hr : StrsR w A p.parts) (hpc : p.parts.length ≤ c) (hc47 : c ≤ 9223372036854775807) (hM : MaxL w) (hy : matchS p s = y) :
    Calls Tryd.prog 14 #[.agg #[.slice A p.parts.length c, .bool p.rest], .string (bs s)] w fun e w' => e = .returned (.bool y) ∧ Calm w w' := by
  obtain ⟨w1, hw1⟩ : ∃ w1, w1 = w.alloc (.cells #[.slice A p.parts.length c, .bool p.rest] 25) := ⟨_, rfl⟩
  have hc1 : Calm w w1 := by rw [hw1]; exact (Calm.refl w).alloc _
  have hm : Calls Tryd.prog 30 #[.agg #[.slice A p.parts.length c, .bool p.rest], .string (bs s)] w1 fun e w' => ∃ A' n' c', e = .returned (.tuple #[.slice A' n' c', .bool y]) ∧ Calm w1 w' := by
    refine (rmatch_c p s A c w1 hs (hr.calm hc1) hpc hc47 (hM.calm hc1)).mono fun e w' ⟨h1, h2⟩ => ?_
    rcases h1 with ⟨h3, A', c', h4, _⟩ | ⟨h3, h4⟩
    · rw [hy] at h3
      subst h3
      exact ⟨_, _, _, h4, h2⟩
    · rw [hy] at h3
      subst h3
      exact ⟨_, _, _, h4, h2⟩
  have HW := Lib.hid hw1
  have HC := Lib.hid hc1
  clear hw1 hc1 hr hM hy
  generalize p.parts.length = n at *
  generalize p.rest = re at *
  go_enter Tryd.func14, Tryd.ntmps14
  go_wp2_with (go_at_call 30; rw [← HW.out]; refine hm.mono ?_; rintro e w2 ⟨A2, n2, c2, rfl, hc2⟩)
  go_ret
  exact ⟨rfl, HC.out.trans hc2⟩
end Go.Proofs.YtoaelfdkamgdaaaDoor
