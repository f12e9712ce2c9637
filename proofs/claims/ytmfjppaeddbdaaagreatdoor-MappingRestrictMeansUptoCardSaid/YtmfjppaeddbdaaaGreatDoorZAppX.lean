/- Appends of whole slices of structs to rows of the call's own. -/
import Derived.Test.YtmfjppaeddbdaaaGreatDoorZMeetP
set_option linter.unusedVariables false
set_option linter.unusedSimpArgs false
namespace Go.Proofs.YtmfjppaeddbdaaaGreatDoor
open Go Go.RowKit Sy

variable {α : Type} {enc : α → List Value} {K : Nat} {T : TypeId}
def ReadX (enc : α → List Value) (K : Nat) (w : World) (A : Option Addr) (m : List α) : Prop := m ≠ [] → ∃ b o, A = some ⟨b, o, none⟩ ∧ b < w.heap.size ∧ ∀ (k : Nat) x, m[k]? = some x → ∀ (i : Nat) u, (enc x)[i]? = some u → w.cell? ⟨b, o + k * K + i, none⟩ = some u
theorem ReadX.calm {w w' : World} {A : Option Addr} {m : List α} (h : ReadX enc K w A m) (hc : Calm w w') : ReadX enc K w' A m := fun hne => by
  obtain ⟨b, o, hA, hb, hk⟩ := h hne
  exact ⟨b, o, hA, Nat.lt_of_lt_of_le hb hc.size, fun k x hx i u hu => Calm.at_ hc (hk k x hx i u hu) hb⟩
theorem encs_cells (hlen : ∀ x, (enc x).length = K) : ∀ (l : List α) (j : Nat) u, (encs enc l)[j]? = some u → ∃ k x i, l[k]? = some x ∧ j = k * K + i ∧ (enc x)[i]? = some u
  | [], j, u, h => by simp [encs] at h
  | y :: t, j, u, h => by
    have e : encs enc (y :: t) = enc y ++ encs enc t := by simp [encs]
    rw [e] at h
    by_cases hj : j < K
    · rw [List.getElem?_append_left (by rw [hlen]; exact hj)] at h
      exact ⟨0, y, j, rfl, by omega, h⟩
    · rw [List.getElem?_append_right (by rw [hlen]; omega), hlen] at h
      obtain ⟨k, x, i, h1, h2, h3⟩ := encs_cells hlen t (j - K) u h
      exact ⟨k + 1, x, i, by simpa using h1, by rw [Nat.add_mul, Nat.one_mul]; omega, h3⟩
theorem encs_app (l m : List α) : encs enc (l ++ m) = encs enc l ++ encs enc m := by simp [encs]
theorem run_append_xs {P : Program} {w w0 : World} {S ty : TypeId} {i0 : TypeInfo} {z : Value} {bytes : Nat} (ht : P.underlying S = some (.slice T)) (hi : P.info? T = some i0) (hz : i0.zero = some z) (hsize : i0.size = K) (hby : i0.bytes = bytes) (hzs : z.cells.size = K) (hK : 0 < K)
    (hlen : ∀ x, (enc x).length = K) (h1 : ∀ x, ∀ u ∈ enc x, u.oneCell' = true) {v : Value} {l m : List α} {A : Option Addr} {n c : Nat} (hown : OwnX enc K T w0 w v l) (hm : m.length = n)
    (hrd : ReadX enc K w A m) (hl : l.length + n ≤ 2000000) (hb : bytes ≤ 1000) :
    ∃ v' w', (Builtin.append_ #[S, S] ty #[v, .slice A n c]).run P w = .ok v' w' ∧ OwnX enc K T w0 w' v' (l ++ m) ∧ w.grownBy w' v.ownBlock := by
  cases A with
  | none =>
    have h0 : m = [] := Classical.byContradiction fun hne => by
      obtain ⟨b, o, hA, _⟩ := hrd hne
      cases hA
    subst h0
    obtain rfl : 0 = n := by simpa using hm
    refine ⟨v, w, ?_, by rw [List.append_nil]; exact hown, calm_grown (Calm.refl w)⟩
    rcases hown.own.2 with ⟨rfl, h1⟩ | ⟨g, cap, cur, rfl, _, _, hnc, _⟩
    · simp [Builtin.append_, run_underlying ht, sizeOf, typeInfo, hi, Builtin.lenOf, Builtin.firstCells]
    · simp [Builtin.append_, run_underlying ht, sizeOf, typeInfo, hi, Builtin.lenOf, Builtin.firstCells, hnc, storeCells]
  | some ad =>
    have hnews : ∀ (j : Nat) (u : Value), (encs enc m)[j]? = some u → w.cell? (ad.add j) = some u := fun j u hj => by
      obtain ⟨k, x, i, h2, rfl, h3⟩ := encs_cells hlen m j u hj
      obtain ⟨b, o, hA, _, hk⟩ := hrd (fun e => by rw [e] at h2; simp at h2)
      obtain rfl := Option.some.inj hA
      simpa [Addr.add_lit, Nat.add_assoc] using hk k x h2 i u h3
    have h2 : ∀ u ∈ encs enc m, u.oneCell' = true := fun u hu => by
      obtain ⟨x, _, hx⟩ := List.mem_flatMap.1 hu
      exact h1 x u hx
    obtain ⟨v', w', hr, h3, h4, _⟩ := run_append_own (P := P) w w0.heap.size S ty T i0 z K bytes ht hi hz hsize hby hzs hK v l.length (encs enc l) hown.own ad n c (encs enc m) (by rw [encs_len hlen, hm]) hnews h2 (by unfold maxLen; omega) (Nat.le_trans (Nat.mul_le_mul (show l.length + n ≤ 2000000 by omega) hb) (by decide)) hown.calm.size
    exact ⟨v', w', hr, ⟨Below.trans hown.calm (owns_below hown.own hown.calm.size h4), by rw [List.length_append, hm, encs_app]; exact h3⟩, h4⟩
theorem OwnX.len_shape {α : Type} {enc : α → List Value} {K : Nat} {T : TypeId} {w0 w : World} {v : Value} {l : List α} (h : OwnX enc K T w0 w v l) : ∃ A c, v = .slice A l.length c := by
  rcases h.own.2 with ⟨rfl, h0⟩ | ⟨g, cap, cur, rfl, _⟩
  · exact ⟨none, 0, by rw [h0]⟩
  · exact ⟨_, _, rfl⟩
theorem OwnX.base {α : Type} {enc : α → List Value} {K : Nat} {T : TypeId} {w00 w0 w : World} {v : Value} {l : List α} (h : OwnX enc K T w0 w v l) (h0 : Calm w00 w0) : OwnX enc K T w00 w v l := by
  refine ⟨h0.trans h.calm, h.own.1, ?_⟩
  rcases h.own.2 with h2 | ⟨g, cap, cur, hv, hg, hh, r⟩
  · exact .inl h2
  · exact .inr ⟨g, cap, cur, hv, Nat.le_trans h0.size hg, hh, r⟩
theorem RowX.put1 {w : World} {g o : Nat} {l : List α} (hlen : ∀ x, (enc x).length = K) (h : RowX enc K T w g o l) {k j : Nat} {x y : α} {u : Value} (hk : l[k]? = some x) (hj : j < K) (he : enc y = (enc x).set j u) : RowX enc K T (w.setCell ⟨g, o + k * K + j, none⟩ u) g o (l.set k y) := by
  refine ⟨?_, fun t z ht i v hv => ?_⟩
  · obtain ⟨cs, hh⟩ := h.kind
    exact ⟨cs.setIfInBounds (o + k * K + j) u, by simp [World.setCell, Array.getElem?_modify, hh]⟩
  · have hi : i < K := by rw [← hlen z]; exact (List.getElem?_eq_some_iff.1 hv).1
    by_cases e : k = t
    · subst e
      rw [List.getElem?_set_self (List.getElem?_eq_some_iff.1 hk).1] at ht
      obtain rfl : y = z := Option.some.inj ht
      rw [he] at hv
      by_cases e2 : j = i
      · subst e2
        rw [List.getElem?_set_self (by rw [hlen]; exact hj)] at hv
        obtain rfl := Option.some.inj hv
        have h0 := h.cell k x hk j _ (List.getElem?_eq_getElem (by rw [hlen]; exact hj))
        exact World.cell?_setCell_same _ _ _ h0
      · rw [List.getElem?_set_ne e2] at hv
        rw [World.cell?_setCell_other _ _ _ _ (by intro e3; have := congrArg Addr.off e3; simp at this; omega)]
        exact h.cell k x hk i v hv
    · rw [List.getElem?_set_ne e] at ht
      have hne : o + k * K + j ≠ o + t * K + i := by
        rcases Nat.lt_or_ge k t with h1 | h1
        · have := Nat.mul_le_mul_right K (show k + 1 ≤ t from h1)
          rw [Nat.add_mul, Nat.one_mul] at this
          omega
        · have := Nat.mul_le_mul_right K (show t + 1 ≤ k by omega)
          rw [Nat.add_mul, Nat.one_mul] at this
          omega
      rw [World.cell?_setCell_other _ _ _ _ (by intro e3; have := congrArg Addr.off e3; simp at this; omega)]
      exact h.cell t z ht i v hv
theorem step_append_xs {S : TypeId} {z : Value} {bytes : Nat} (ht : Tryz.prog.underlying S = some (.slice T)) (hi : (Tryz.prog.info? T).map (fun i => (i.zero, i.size, i.bytes)) = some (some z, K, bytes)) (hzs : z.cells.size = K) (hK0 : 0 < K) (hb : bytes ≤ 1000)
    (hlen : ∀ x, (enc x).length = K) (h1 : ∀ x, ∀ u ∈ enc x, u.oneCell' = true)
    {ops : Array Oper} {o : Oper} {a : Act} {w : World} {R : Act → World → Prop} {Q : Exit → Act → World → Prop} {E : Prop}
    (hg : o.guard = none) (s x : Operand) (hop : o.op = Op.call { callee := Callee.builtin Builtin.append, args := #[s, x], argTypes := #[S, S] })
    (w0 : World) (v : Value) (l m : List α) (hs : a.eval s = v) (hown : OwnX enc K T w0 w v l) (A : Option Addr) (n c : Nat) (hx : a.eval x = .slice A n c) (hm : m.length = n)
    (hrd : ReadX enc K w A m) (hl : l.length + n ≤ 2000000)
    (hK : ∀ v' w', OwnX enc K T w0 w' v' (l ++ m) → w.grownBy w' v.ownBlock → R (a.put o.dst v') w') :
    if Region.wanted o (yielded ops a.tmps) = true then Oper.wp Tryz.prog o a w R Q else E := by
  have hw : Region.wanted o (yielded ops a.tmps) = true := by simp [Region.wanted, hg]
  rw [if_pos hw]
  obtain ⟨i0, hi0, hz0, hz1, hz2⟩ := info_parts hi
  obtain ⟨v', w', hr, h2, h3⟩ := run_append_xs (P := Tryz.prog) (ty := o.type) (c := c) ht hi0 hz0 hz1 hz2 hzs hK0 hlen h1 hown hm hrd hl hb
  unfold Oper.wp
  simp [execOp, hop, resolve, invoke, builtin, hs, hx, Result.andThen]
  rw [hr]
  exact hK v' w' h2 h3
theorem wpList_append_xs {S : TypeId} {z : Value} {bytes : Nat} (ht : Tryz.prog.underlying S = some (.slice T)) (hi : (Tryz.prog.info? T).map (fun i => (i.zero, i.size, i.bytes)) = some (some z, K, bytes)) (hzs : z.cells.size = K) (hK0 : 0 < K) (hb : bytes ≤ 1000)
    (hlen : ∀ x, (enc x).length = K) (h1 : ∀ x, ∀ u ∈ enc x, u.oneCell' = true)
    {ops : Array Oper} {rest : List Oper} {o : Oper} {a : Act} {Q : Exit → Act → World → Prop} {w : World} (hgd : o.guard = none) (s x : Operand)
    (ho : o.op = .call { callee := .builtin .append, args := #[s, x], argTypes := #[S, S] }) (w0 : World) (v : Value) (l m : List α) (hs : a.eval s = v) (hown : OwnX enc K T w0 w v l) (A : Option Addr) (n c : Nat) (hx : a.eval x = .slice A n c) (hm : m.length = n)
    (hrd : ReadX enc K w A m) (hl : l.length + n ≤ 2000000)
    (h : ∀ v' w', OwnX enc K T w0 w' v' (l ++ m) → w.grownBy w' v.ownBlock → wpList Tryz.prog ops Q rest (a.put o.dst v') w') : wpList Tryz.prog ops Q (o :: rest) a w := by
  refine wpList_plain hgd fun _ hK => ?_
  obtain ⟨i0, hi0, hz0, hz1, hz2⟩ := info_parts hi
  obtain ⟨v', w', hr, h2, h3⟩ := run_append_xs (P := Tryz.prog) (ty := o.type) (c := c) ht hi0 hz0 hz1 hz2 hzs hK0 hlen h1 hown hm hrd hl hb
  unfold Oper.wp execOp
  simp only [ho, resolve, invoke, builtin, Sem.run_bind, Sem.run_pure, Result.andThen_ok, List.map_toArray, List.map_cons, List.map_nil, hs, hx]
  rw [hr]
  exact hK _ _ (h v' w' h2 h3)
end Go.Proofs.YtmfjppaeddbdaaaGreatDoor
