/- Appends of whole slices of structs to rows of the call's own; slices of patterns read as places. -/
import Derived.Test.YtdndfkoklhfffaaGreatDoorRed3W
import Derived.Test.YtdndfkoklhfffaaGreatDoorSimpW
import Derived.Test.YtdndfkoklhfffaaGreatDoorRegL
import Derived.Test.YtdndfkoklhfffaaGreatDoorWalkR
import Derived.Lib.AppendZeros
import Derived.Lib.SliceRun
import Derived.Deep.DeepCutAuto
import Derived.Deep.RegionHeld3
import Derived.Deep.RegionWith
set_option linter.unusedVariables false
set_option linter.unusedSimpArgs false
namespace Go.Proofs.YtdndfkoklhfffaaGreatDoor
open Go Go.RowKit Sy

variable {α : Type} {enc : α → List Value} {K : Nat} {T : TypeId}

/-- Elements that can be read from a slice. -/
def ReadX (enc : α → List Value) (K : Nat) (w : World) (A : Option Addr) (m : List α) : Prop := m ≠ [] → ∃ b o, A = some ⟨b, o, none⟩ ∧ b < w.heap.size ∧ ∀ (k : Nat) x, m[k]? = some x → ∀ (i : Nat) u, (enc x)[i]? = some u → w.cell? ⟨b, o + k * K + i, none⟩ = some u
theorem ReadX.calm {w w' : World} {A : Option Addr} {m : List α} (h : ReadX enc K w A m) (hc : Calm w w') : ReadX enc K w' A m := fun hne => by
  obtain ⟨b, o, hA, hb, hk⟩ := h hne
  exact ⟨b, o, hA, Nat.lt_of_lt_of_le hb hc.size, fun k x hx i u hu => Calm.at_ hc (hk k x hx i u hu) hb⟩
theorem encs_cells (hlen : ∀ x, (enc x).length = K) : ∀ (l : List α) (j : Nat) u, (encs enc l)[j]? = some u → ∃ k x i, l[k]? = some x ∧ j = k * K + i ∧ (enc x)[i]? = some u
  | [], j, u, h => by simp [encs] at h
  | y :: t, j, u, h => by
    have e : encs enc (y :: t) = enc y ++ encs enc t := by simp [encs]
    rw [e] at h
    by_cases hj : j < K
    · rw [List.getElem?_append_left (by rw [hlen]; exact hj)] at h
      exact ⟨0, y, j, rfl, by omega, h⟩
    · rw [List.getElem?_append_right (by rw [hlen]; omega), hlen] at h
      obtain ⟨k, x, i, h1, h2, h3⟩ := encs_cells hlen t (j - K) u h
      exact ⟨k + 1, x, i, by simpa using h1, by rw [Nat.add_mul, Nat.one_mul]; omega, h3⟩
theorem encs_app (l m : List α) : encs enc (l ++ m) = encs enc l ++ encs enc m := by simp [encs]
theorem run_append_xs {P : Program} {w w0 : World} {S ty : TypeId} {i0 : TypeInfo} {z : Value} {bytes : Nat} (ht : P.underlying S = some (.slice T)) (hi : P.info? T = some i0) (hz : i0.zero = some z) (hsize : i0.size = K) (hby : i0.bytes = bytes) (hzs : z.cells.size = K) (hK : 0 < K)
    (hlen : ∀ x, (enc x).length = K) (h1 : ∀ x, ∀ u ∈ enc x, u.oneCell' = true) {v : Value} {l m : List α} {A : Option Addr} {n c : Nat} (hown : OwnX enc K T w0 w v l) (hm : m.length = n)
    (hrd : ReadX enc K w A m) (hl : l.length + n ≤ 1000000) (hb : bytes ≤ 1000) :
    ∃ v' w', (Builtin.append_ #[S, S] ty #[v, .slice A n c]).run P w = .ok v' w' ∧ OwnX enc K T w0 w' v' (l ++ m) ∧ w.grownBy w' v.ownBlock := by
  cases A with
  | none =>
    have h0 : m = [] := Classical.byContradiction fun hne => by
      obtain ⟨b, o, hA, _⟩ := hrd hne
      cases hA
    subst h0
    obtain rfl : 0 = n := by simpa using hm
    refine ⟨v, w, ?_, by rw [List.append_nil]; exact hown, calm_grown (Calm.refl w)⟩
    rcases hown.own.2 with ⟨rfl, h1⟩ | ⟨g, cap, cur, rfl, _, _, hnc, _⟩
    · simp [Builtin.append_, run_underlying ht, sizeOf, typeInfo, hi, Builtin.lenOf, Builtin.firstCells]
    · simp [Builtin.append_, run_underlying ht, sizeOf, typeInfo, hi, Builtin.lenOf, Builtin.firstCells, hnc, storeCells]
  | some ad =>
    have hnews : ∀ (j : Nat) (u : Value), (encs enc m)[j]? = some u → w.cell? (ad.add j) = some u := fun j u hj => by
      obtain ⟨k, x, i, h2, rfl, h3⟩ := encs_cells hlen m j u hj
      obtain ⟨b, o, hA, _, hk⟩ := hrd (fun e => by rw [e] at h2; simp at h2)
      obtain rfl := Option.some.inj hA
      simpa [Addr.add_lit, Nat.add_assoc] using hk k x h2 i u h3
    have h2 : ∀ u ∈ encs enc m, u.oneCell' = true := fun u hu => by
      obtain ⟨x, _, hx⟩ := List.mem_flatMap.1 hu
      exact h1 x u hx
    obtain ⟨v', w', hr, h3, h4, _⟩ := run_append_own (P := P) w w0.heap.size S ty T i0 z K bytes ht hi hz hsize hby hzs hK v l.length (encs enc l) hown.own ad n c (encs enc m) (by rw [encs_len hlen, hm]) hnews h2 (by unfold maxLen; omega) (Nat.le_trans (Nat.mul_le_mul (show l.length + n ≤ 1000000 by omega) hb) (by decide)) hown.calm.size
    exact ⟨v', w', hr, ⟨Below.trans hown.calm (owns_below hown.own hown.calm.size h4), by rw [List.length_append, hm, encs_app]; exact h3⟩, h4⟩

/-- A slice of patterns, and where their parts lie. -/
structure PatsX (w : World) (A : Option Addr) (l : List NewP) : Prop where
  each : ∀ x ∈ l, PatA w x.A x.c x.p
  read : ReadX encP 2 w A l
theorem PatsX.calm {w w' : World} {A : Option Addr} {l : List NewP} (h : PatsX w A l) (hc : Calm w w') : PatsX w' A l := ⟨fun x hx => (h.each x hx).calm hc, h.read.calm hc⟩
theorem PatsX.reads {w : World} {A : Option Addr} {l : List NewP} (h : PatsX w A l) (hl : l.length ≤ 16384) : PatsR w A (l.map (·.p)) := by
  refine ⟨by rw [List.length_map]; exact hl, fun h0 => ?_⟩
  rw [List.length_map] at h0
  obtain ⟨b, o, hA, hb, hk⟩ := h.read (List.length_pos_iff.1 h0)
  refine ⟨b, o, hA, hb, fun k p hp => ?_⟩
  rw [List.getElem?_map] at hp
  obtain ⟨x, hx, rfl⟩ := Option.map_eq_some_iff.1 hp
  have hpa := h.each x (List.mem_of_getElem? hx)
  exact ⟨x.A, x.c, hk k x hx 0 _ rfl, hk k x hx 1 _ rfl, hpa.room, hpa.cap, hpa.r⟩
theorem PatsR.places {w : World} {A : Option Addr} {ps : List Pat} (h : PatsR w A ps) : ∃ l : List NewP, l.map (·.p) = ps ∧ PatsX w A l := by
  rcases Nat.eq_zero_or_pos ps.length with h0 | h0
  · have : ps = [] := List.eq_nil_of_length_eq_zero h0
    subst this
    exact ⟨[], rfl, (fun x hx => by cases hx), fun hne => absurd rfl hne⟩
  · obtain ⟨b, o, hA, hb, hc⟩ := h.at_ h0
    have hex : ∀ k : Fin ps.length, ∃ r : NewP, r.p = ps[k] ∧ PatA w r.A r.c r.p ∧ w.cell? ⟨b, o + k.val * 2, none⟩ = some (.slice r.A r.p.parts.length r.c) ∧ w.cell? ⟨b, o + k.val * 2 + 1, none⟩ = some (.bool r.p.rest) := fun k => by
      obtain ⟨Ak, ck, g1, g2, g3, g4, g5⟩ := hc k.val _ (List.getElem?_eq_getElem k.isLt)
      exact ⟨⟨Ak, ck, ps[k]⟩, rfl, ⟨g5, g3, g4⟩, g1, g2⟩
    let f : Fin ps.length → NewP := fun k => Classical.choose (hex k)
    have hf : ∀ k, (f k).p = ps[k] ∧ PatA w (f k).A (f k).c (f k).p ∧ w.cell? ⟨b, o + k.val * 2, none⟩ = some (.slice (f k).A (f k).p.parts.length (f k).c) ∧ w.cell? ⟨b, o + k.val * 2 + 1, none⟩ = some (.bool (f k).p.rest) := fun k => Classical.choose_spec (hex k)
    refine ⟨List.ofFn f, ?_, fun x hx => ?_, fun _ => ⟨b, o, hA, hb, fun k x hk i u hu => ?_⟩⟩
    · apply List.ext_getElem
      · simp
      · intro j h1 h2
        simp only [List.getElem_map, List.getElem_ofFn]
        exact (hf ⟨j, h2⟩).1
    · obtain ⟨k, rfl⟩ := List.mem_ofFn.1 hx
      exact (hf k).2.1
    · obtain ⟨hlt, he⟩ := List.getElem?_eq_some_iff.1 hk
      simp only [List.getElem_ofFn] at he
      have hlt2 : k < ps.length := by simpa using hlt
      have := hf ⟨k, hlt2⟩
      rw [he] at this
      match i, hu with
      | 0, hu => obtain rfl := Option.some.inj hu; exact this.2.2.1
      | 1, hu => obtain rfl := Option.some.inj hu; exact this.2.2.2
      | i + 2, hu => simp [encP] at hu
theorem PatsN.places {w : World} {B : Nat} {A : Option Addr} {c : Nat} {ps : List Pat} (h : PatsN w B A c ps) : ∃ l : List NewP, l.map (·.p) = ps ∧ PatsX w A l := by
  obtain ⟨l, h1, h2, h3⟩ := h.ex
  refine ⟨l, h1, fun x hx => (h3 x hx).a, fun hne => ?_⟩
  rcases h2 with ⟨_, h2⟩ | ⟨g, hA, hg, hr⟩
  · rw [h2, List.map_eq_nil_iff] at h1
    exact absurd h1 hne
  · exact ⟨g, 0, hA, hr.lt, hr.cell⟩
theorem PatsN.reads {w : World} {B : Nat} {A : Option Addr} {c : Nat} {ps : List Pat} (h : PatsN w B A c ps) (hl : ps.length ≤ 16384) : PatsR w A ps := by
  obtain ⟨l, h1, h2⟩ := h.places
  rw [← h1] at hl ⊢
  rw [List.length_map] at hl
  exact h2.reads hl
/-- A row of the call's own, of patterns that lie somewhere. -/
theorem OwnX.places {w0 wr : World} {v : Value} {l : List NewP} (h : OwnX encP 2 24 w0 wr v l) (he : ∀ x ∈ l, PatA wr x.A x.c x.p) : ∃ A c, v = .slice A l.length c ∧ l.length ≤ c ∧ c ≤ 9223372036854775807 ∧ PatsX wr A l := by
  rcases h.row encP_len with ⟨rfl, h0⟩ | ⟨g, c, rfl, h1, h2, _, hr⟩
  · subst h0
    exact ⟨none, 0, rfl, Nat.le_refl _, by omega, he, fun hne => absurd rfl hne⟩
  · exact ⟨_, c, rfl, h1, h2, he, fun _ => ⟨g, 0, rfl, hr.lt, hr.cell⟩⟩
theorem step_append_ps {ops : Array Oper} {o : Oper} {a : Act} {w : World} {K : Act → World → Prop} {Q : Exit → Act → World → Prop} {E : Prop}
    (hg : o.guard = none) (s x : Operand) (hop : o.op = Op.call { callee := Callee.builtin Builtin.append, args := #[s, x], argTypes := #[25, 25] })
    (w0 : World) (v : Value) (l m : List NewP) (hs : a.eval s = v) (hown : OwnX encP 2 24 w0 w v l) (A : Option Addr) (n c : Nat) (hx : a.eval x = .slice A n c) (hm : m.length = n)
    (hrd : ReadX encP 2 w A m) (hl : l.length + n ≤ 1000000)
    (hK : ∀ v' w', OwnX encP 2 24 w0 w' v' (l ++ m) → w.grownBy w' v.ownBlock → K (a.put o.dst v') w') :
    if Region.wanted o (yielded ops a.tmps) = true then Oper.wp Tryz.prog o a w K Q else E := by
  have hw : Region.wanted o (yielded ops a.tmps) = true := by simp [Region.wanted, hg]
  rw [if_pos hw]
  obtain ⟨i0, hi0, hz0, hz1, hz2⟩ := info_parts info_patE
  obtain ⟨v', w', hr, h2, h3⟩ := run_append_xs (P := Tryz.prog) (ty := o.type) (c := c) Tryz.underlying25 hi0 hz0 hz1 hz2 rfl (by decide) encP_len encP_one hown hm hrd hl (by decide)
  unfold Oper.wp
  simp [execOp, hop, resolve, invoke, builtin, hs, hx, Result.andThen]
  rw [hr]
  exact hK v' w' h2 h3
theorem wpList_append_ps {ops : Array Oper} {rest : List Oper} {o : Oper} {a : Act} {Q : Exit → Act → World → Prop} {w : World} (hgd : o.guard = none) (s x : Operand)
    (ho : o.op = .call { callee := .builtin .append, args := #[s, x], argTypes := #[25, 25] }) (w0 : World) (v : Value) (l m : List NewP) (hs : a.eval s = v) (hown : OwnX encP 2 24 w0 w v l) (A : Option Addr) (n c : Nat) (hx : a.eval x = .slice A n c) (hm : m.length = n)
    (hrd : ReadX encP 2 w A m) (hl : l.length + n ≤ 1000000)
    (h : ∀ v' w', OwnX encP 2 24 w0 w' v' (l ++ m) → w.grownBy w' v.ownBlock → wpList Tryz.prog ops Q rest (a.put o.dst v') w') : wpList Tryz.prog ops Q (o :: rest) a w := by
  refine wpList_plain hgd fun _ hK => ?_
  obtain ⟨i0, hi0, hz0, hz1, hz2⟩ := info_parts info_patE
  obtain ⟨v', w', hr, h2, h3⟩ := run_append_xs (P := Tryz.prog) (ty := o.type) (c := c) Tryz.underlying25 hi0 hz0 hz1 hz2 rfl (by decide) encP_len encP_one hown hm hrd hl (by decide)
  unfold Oper.wp execOp
  simp only [ho, resolve, invoke, builtin, Sem.run_bind, Sem.run_pure, Result.andThen_ok, List.map_toArray, List.map_cons, List.map_nil, hs, hx]
  rw [hr]
  exact hK _ _ (h v' w' h2 h3)
end Go.Proofs.YtdndfkoklhfffaaGreatDoor
set_option linter.unusedVariables false
set_option linter.unusedSimpArgs false
namespace Go.Proofs.YtdndfkoklhfffaaGreatDoor
open Go Go.RowKit Sy

/-- An empty row of the call's own with room. -/
theorem own_room {w : World} {cur : Array Value} {cap : Nat} (hm : cap ≤ maxLen) (hs : cur.size = cap * 2) : OwnX encP 2 24 w (w.drew.alloc (.cells cur 24)) (.slice (some ⟨w.heap.size, 0, none⟩) 0 cap) [] :=
  ⟨Below.alloc (Below.drew (Calm.refl w)) (Below.drew (Calm.refl w)).size _, by
    have := World.ownsRow_made (base := w.heap.size) (e := 24) (size := 2) w.drew cur cap (Nat.le_refl _) hm hs
    exact this⟩
def GrowEnd (w : World) (e : Ending) (w' : World) : Prop := ∃ A c, e = .returned (.slice A 0 c) ∧ OwnX encP 2 24 w w' (.slice A 0 c) []
set_option maxRecDepth 100000 in
set_option maxHeartbeats 2000000 in
theorem grow_c (n : Nat) (w : World) (hn : n ≤ 1000000) : Calls Tryz.prog 57 #[.slice none 0 0, .int .i64 n] w fun e w' => GrowEnd w e w' := by
  rcases Nat.eq_zero_or_pos n with rfl | h0
  · go_enter Tryz.func57, Tryz.ntmps57
    go_wp2
    go_ret
    exact ⟨none, 0, rfl, OwnX.nil (Calm.refl w)⟩
  · obtain ⟨i0, hi0, hz0, hz1, hz2⟩ := info_parts info_patE
    have hr := fun ty => Lib.run_append_nil_zeros (P := Tryz.prog) w 25 3 ty 24 i0 _ .i64 .i64 Tryz.underlying25 Tryz.underlying3 hi0 hz0 n h0 (by rw [hz1]; decide) (by omega) (by rw [hz2]; omega)
    have hge := grownCap_ge w n 0 24
    have hle := grownCap_le_maxLen w n 0 24 (by unfold maxLen; omega)
    obtain ⟨G, hG⟩ : ∃ G, grownCap w n 0 24 = G := ⟨_, rfl⟩
    rw [hG] at hge hle hr
    obtain ⟨cur, hcur⟩ : ∃ cur, cur = Builtin.zeroCells (Value.agg #[.slice none 0 0, .bool false]).cells n ++ Builtin.zeroCells (Value.agg #[.slice none 0 0, .bool false]).cells (G - n) := ⟨_, rfl⟩
    have hcs : cur.size = G * 2 := by
      rw [hcur]
      simp [Builtin.zeroCells, Value.cells]
      omega
    rw [← hcur] at hr
    have HO := Lib.hid (own_room (w := w) (cur := cur) hle hcs)
    have hG63 : G ≤ 9223372036854775807 := by unfold maxLen at hle; omega
    clear hG hcur hcs hle
    go_enter Tryz.func57, Tryz.ntmps57
    go_wp2_with (at_builtin; refine Lib.wpList_append_run _ rfl _ _ _ _ rfl _ _ rfl rfl _ _ (hr _) ?_)
    go_ret
    exact ⟨_, _, rfl, HO.out⟩

/-- Two slices side by side: what Concat gives. -/
def CatEnd (ps : List Pat) (w : World) (e : Ending) (w' : World) : Prop := ∃ A c, e = .returned (.slice A ps.length c) ∧ PatsR w' A ps
set_option maxHeartbeats 4000000 in
theorem concat_c (ps qs : List Pat) (A A' : Option Addr) (n m c c' : Nat) (g cc : Nat) (w : World) (hp : PatsR w A ps) (hq : PatsR w A' qs) (hn : ps.length = n) (hm : qs.length = m) (hl : n + m ≤ 16384)
    (k0 : w.cell? ⟨g, 0, none⟩ = some (.slice A n c)) (k1 : w.cell? ⟨g, 1, none⟩ = some (.slice A' m c')) (hg : g < w.heap.size) :
    Calls Tryz.prog 23 #[.slice (some ⟨g, 0, none⟩) 2 cc] w fun e w' => CatEnd (ps ++ qs) w e w' ∧ Calm w w' := by
  obtain ⟨lp, hlp, hX⟩ := hp.places
  obtain ⟨lq, hlq, hY⟩ := hq.places
  have e1 : lp.length = n := by rw [← hn, ← hlp, List.length_map]
  have e2 : lq.length = m := by rw [← hm, ← hlq, List.length_map]
  have HX := Lib.hid (And.intro hX (And.intro hY (And.intro e1 e2)))
  have HL := Lib.hid (And.intro hlp hlq)
  have KG := Lib.hid (fun W => grow_c (n + m) W (by omega))
  have z1 : IntKind.i64.wrap ((0 : Int) + (n : Int)) = (n : Int) := IntWalk.i64_in _ (by omega) |>.trans (by omega)
  have z2 : IntKind.i64.wrap ((n : Int) + (m : Int)) = ((n + m : Nat) : Int) := by rw [IntWalk.i64_in _ (by omega)]; omega
  have HK := Lib.hid (And.intro k0 (And.intro k1 hg))
  clear hp hq hX hY e1 e2 hlp hlq hn hm
  go_enter Tryz.func23, Tryz.ntmps23
  go_wp2_with fail
  go_loopw [3, 11] (fun s i wr => w = wr ∧ ((i = .int .i64 0 ∧ s = .int .i64 0) ∨ (i = .int .i64 1 ∧ s = .int .i64 n) ∨ (i = .int .i64 2 ∧ s = .int .i64 ((n + m : Nat) : Int)))) (fun _ i _ => 2 - (intOf i).toNat)
  case atStart => exact ⟨rfl, .inl ⟨rfl, rfl⟩⟩
  case round =>
    obtain ⟨rfl, hrel⟩ := hrel
    rcases hrel with ⟨rfl, rfl⟩ | ⟨rfl, rfl⟩ | ⟨rfl, rfl⟩
    · go_wp2
      go_roundw
      case rel => exact ⟨trivial, .inr (.inl ⟨by go_num, by go_num⟩)⟩
      case measure => simp [intOf]
    · go_wp2
      go_roundw
      case rel => exact ⟨trivial, .inr (.inr ⟨by go_num, by go_num⟩)⟩
      case measure => simp [intOf]
    · go_wp2_with (go_at_call 57; refine (KG.out _).mono ?_; rintro e w2 ⟨AG, cG, rfl, hOG⟩)
      have HOG := Lib.hid hOG
      clear hOG z1 z2 k0 k1
      go_loopw [6, 27] (fun s i wr => (i = .int .i64 0 ∧ Hid (OwnX encP 2 24 w wr s [])) ∨ (i = .int .i64 1 ∧ Hid (OwnX encP 2 24 w wr s lp)) ∨ (i = .int .i64 2 ∧ Hid (OwnX encP 2 24 w wr s (lp ++ lq)))) (fun _ i _ => 2 - (intOf i).toNat)
      case atStart => exact .inl ⟨rfl, HOG.out⟩
      case round =>
        rcases hrel with ⟨rfl, HO⟩ | ⟨rfl, HO⟩ | ⟨rfl, HO⟩
        · have k0 := Calm.at_ HO.out.calm HK.out.1 HK.out.2.2
          have hgr := Nat.lt_of_lt_of_le HK.out.2.2 HO.out.calm.size
          go_wp2_with (at_builtin; refine wpList_append_ps rfl (.tmp 31) (.tmp 32) rfl w u6 [] lp rfl HO.out A n c rfl HX.out.2.2.1 (HX.out.1.read.calm HO.out.calm) (by simp; omega) ?_; intro v6 w6 hown6 hgr6)
          have H6 := Lib.hid hown6
          clear hown6 hgr6 k0 hgr
          go_wp2
          go_roundw
          case rel => exact .inr (.inl ⟨by go_num, Lib.hid (by simpa using H6.out)⟩)
          case measure => simp [intOf]
        · have k1 := Calm.at_ HO.out.calm HK.out.2.1 HK.out.2.2
          have hgr := Nat.lt_of_lt_of_le HK.out.2.2 HO.out.calm.size
          go_wp2_with (at_builtin; refine wpList_append_ps rfl (.tmp 31) (.tmp 32) rfl w u6 lp lq rfl HO.out A' m c' rfl HX.out.2.2.2 (HX.out.2.1.read.calm HO.out.calm) (by rw [HX.out.2.2.1]; omega) ?_; intro v6 w6 hown6 hgr6)
          have H6 := Lib.hid hown6
          clear hown6 hgr6 k1 hgr
          go_wp2
          go_roundw
          case rel => exact .inr (.inr ⟨by go_num, H6.out⟩)
          case measure => simp [intOf]
        · have he : ∀ x ∈ lp ++ lq, PatA wr x.A x.c x.p := fun x hx => by
            rcases List.mem_append.1 hx with h | h
            · exact (HX.out.1.each x h).calm HO.out.calm
            · exact (HX.out.2.1.each x h).calm HO.out.calm
          obtain ⟨A9, c9, rfl, _, _, hX9⟩ := HO.out.places he
          have hlen : (lp ++ lq).length = n + m := by rw [List.length_append, HX.out.2.2.1, HX.out.2.2.2]
          have hE : Hid (CatEnd (ps ++ qs) w (.returned (.slice A9 (n + m) c9)) wr) := by
            refine ⟨A9, c9, ?_, ?_⟩
            · rw [← hlen, ← HL.out.1, ← HL.out.2, ← List.map_append, List.length_map]
            · have := hX9.reads (by rw [hlen]; omega)
              rw [List.map_append, HL.out.1, HL.out.2] at this
              exact this
          rw [hlen]
          have HC := Lib.hid HO.out.calm
          clear hlen he hX9
          go_wp2
          go_ret
          exact ⟨hE.out, HC.out⟩
end Go.Proofs.YtdndfkoklhfffaaGreatDoor
set_option linter.unusedVariables false
set_option linter.unusedSimpArgs false
namespace Go.Proofs.YtdndfkoklhfffaaGreatDoor
open Go Go.RowKit Sy

/-- A region of the call's own. -/
structure RegN (w : World) (B : Nat) (A : Option Addr) (c : Nat) (HA : Option Addr) (hc : Nat) (g : Reg) : Prop where
  base : SmallN w B ⟨A, c, g.b⟩
  holes : PatsN w B HA hc g.hs
theorem RegN.calm {w w' : World} {B : Nat} {A : Option Addr} {c : Nat} {HA : Option Addr} {hc : Nat} {g : Reg} (h : RegN w B A c HA hc g) (hcm : Calm w w') : RegN w' B A c HA hc g := ⟨h.base.calm hcm, h.holes.calm hcm⟩
theorem RegN.mono {w : World} {B B' : Nat} {A : Option Addr} {c : Nat} {HA : Option Addr} {hc : Nat} {g : Reg} (h : RegN w B A c HA hc g) (hB : B' ≤ B) : RegN w B' A c HA hc g := ⟨h.base.mono hB, h.holes.mono hB⟩
theorem RegN.set {w : World} {B : Nat} {A : Option Addr} {c : Nat} {HA : Option Addr} {hc : Nat} {g : Reg} (h : RegN w B A c HA hc g) {p : Addr} (u : Value) (hp : p.block < B) : RegN (w.setCell p u) B A c HA hc g := ⟨h.base.set u hp, h.holes.set u hp⟩
theorem RegN.a {w : World} {B : Nat} {A : Option Addr} {c : Nat} {HA : Option Addr} {hc : Nat} {g : Reg} (h : RegN w B A c HA hc g) (hl : g.hs.length ≤ 16384) : RegA w A c HA g.b g.hs := ⟨h.base.a.r, h.base.a.room, h.base.a.cap, h.holes.reads hl⟩
theorem regN_of {w : World} {B : Nat} {A : Option Addr} {c : Nat} {HA : Option Addr} {hc : Nat} {b : Pat} {hs : List Pat} (h1 : NewS w B A c b.parts) (h2 : PatsN w B HA hc hs) (h3 : b.parts.length ≤ 16384) (h4 : ∀ l ∈ b.parts, l.length ≤ 16384) : RegN w B A c HA hc ⟨b, hs⟩ := ⟨⟨h1, h3, h4⟩, h2⟩

theorem gcheck_a (g : Reg) (v : Int) (n m : Nat) (re : Bool) (A : Option Addr) (c : Nat) (HA : Option Addr) (hc : Nat) (w : World) (h : RegA w A c HA g.b g.hs) (hv : gErr g = v) (hn : g.b.parts.length = n) (hm : g.hs.length = m) (hre : g.b.rest = re) :
    Calls Tryz.prog 16 #[.agg #[.slice A n c, .bool re, .slice HA m hc]] w fun e w' => e = .returned (.int .i64 v) ∧ Calm w w' := by
  have := gcheck_c g.b g.hs A c HA hc w h.base h.room h.cap h.holes
  unfold gErr at hv
  rw [hv, hn, hm, hre] at this
  exact this
/-- The boxes of two regions. -/
structure Box2 (w1 : World) (B : Nat) (A : Option Addr) (n c : Nat) (re : Bool) (HA : Option Addr) (m hc : Nat) (A' : Option Addr) (n' c' : Nat) (re' : Bool) (HA' : Option Addr) (m' hc' : Nat) : Prop where
  size : B + 2 ≤ w1.heap.size
  x0 : w1.cell? ⟨B, 0, none⟩ = some (.slice A n c)
  x1 : w1.cell? ⟨B, 1, none⟩ = some (.bool re)
  x2 : w1.cell? ⟨B, 2, none⟩ = some (.slice HA m hc)
  y0 : w1.cell? ⟨B + 1, 0, none⟩ = some (.slice A' n' c')
  y1 : w1.cell? ⟨B + 1, 1, none⟩ = some (.bool re')
  y2 : w1.cell? ⟨B + 1, 2, none⟩ = some (.slice HA' m' hc')
theorem Box2.calm {w1 w2 : World} {B : Nat} {A : Option Addr} {n c : Nat} {re : Bool} {HA : Option Addr} {m hc : Nat} {A' : Option Addr} {n' c' : Nat} {re' : Bool} {HA' : Option Addr} {m' hc' : Nat} (h : Box2 w1 B A n c re HA m hc A' n' c' re' HA' m' hc') (hcm : Calm w1 w2) : Box2 w2 B A n c re HA m hc A' n' c' re' HA' m' hc' := by
  have h0 : B < w1.heap.size := by have := h.size; omega
  have h1 : B + 1 < w1.heap.size := by have := h.size; omega
  exact ⟨Nat.le_trans h.size hcm.size, hcm.at_ h.x0 h0, hcm.at_ h.x1 h0, hcm.at_ h.x2 h0, hcm.at_ h.y0 h1, hcm.at_ h.y1 h1, hcm.at_ h.y2 h1⟩

set_option maxHeartbeats 1000000 in
theorem both_c (x y : Reg) (v : Int) (n m n' m' : Nat) (re re' : Bool) (A : Option Addr) (c : Nat) (HA : Option Addr) (hc : Nat) (A' : Option Addr) (c' : Nat) (HA' : Option Addr) (hc' : Nat) (w : World) (h : RegA w A c HA x.b x.hs) (h' : RegA w A' c' HA' y.b y.hs) (hv : bothErr x y = v)
    (hn : x.b.parts.length = n) (hm : x.hs.length = m) (hre : x.b.rest = re) (hn' : y.b.parts.length = n') (hm' : y.hs.length = m') (hre' : y.b.rest = re') :
    Calls Tryz.prog 20 #[.agg #[.slice A n c, .bool re, .slice HA m hc], .agg #[.slice A' n' c', .bool re', .slice HA' m' hc']] w fun e w' => e = .returned (.int .i64 v) ∧ Calm w w' := by
  obtain ⟨w1, hw1⟩ : ∃ w1, w1 = (w.alloc (.cells #[.slice A n c, .bool re, .slice HA m hc] 27)).alloc (.cells #[.slice A' n' c', .bool re', .slice HA' m' hc'] 27) := ⟨_, rfl⟩
  have hc1 : Calm w w1 := by rw [hw1]; exact ((Calm.refl w).alloc _).alloc _
  have hbox : Box2 w1 w.heap.size A n c re HA m hc A' n' c' re' HA' m' hc' := by
    rw [hw1]
    exact ⟨by simp, by simp [go_sem], by simp [go_sem], by simp [go_sem], by simp [go_sem], by simp [go_sem], by simp [go_sem]⟩
  obtain ⟨v1, hv1⟩ : ∃ v1, gErr x = v1 := ⟨_, rfl⟩
  have K1 := gcheck_a x v1 n m re A c HA hc w1 (h.calm hc1) hv1 hn hm hre
  have K2 := Lib.hid (fun (W : World) (hW : Calm w1 W) => gcheck_a y (gErr y) n' m' re' A' c' HA' hc' W ((h'.calm hc1).calm hW) rfl hn' hm' hre')
  unfold bothErr at hv
  rw [hv1] at hv
  have HW := Lib.hid hw1
  have HC := Lib.hid hc1
  have HB := Lib.hid hbox
  clear hw1 hc1 hbox h h' hn hm hre hn' hm' hre' hv1
  by_cases h0 : v1 = 0
  · subst h0
    rw [if_pos rfl] at hv
    rw [hv] at K2
    clear hv
    go_enter Tryz.func20, Tryz.ntmps20
    go_wp2_with fail
    rw [← HW.out]
    refine K1.mono ?_
    rintro e w2 ⟨rfl, hc2⟩
    have b2 := HB.out.calm hc2
    have y0 := b2.y0
    have y1 := b2.y1
    have y2 := b2.y2
    clear b2
    go_wp2_with fail
    refine (K2.out w2 hc2).mono ?_
    rintro e w3 ⟨rfl, hc3⟩
    go_wp2
    go_ret
    exact ⟨rfl, HC.out.trans (hc2.trans hc3)⟩
  · rw [if_neg h0] at hv
    subst hv
    have hb : (v1 == 0) = false := by simpa using h0
    clear h0
    go_enter Tryz.func20, Tryz.ntmps20
    go_wp2_with fail
    rw [← HW.out]
    refine K1.mono ?_
    rintro e w2 ⟨rfl, hc2⟩
    go_wp2
    go_ret
    exact ⟨rfl, HC.out.trans hc2⟩
def zeroG : Value := .agg #[.slice none 0 0, .bool false, .slice none 0 0]
def MeetREnd (x y : Reg) (B : Nat) (e : Ending) (w' : World) : Prop :=
  (∃ g A3 c3 HA3 hc3, (meetR x y).1 = some g ∧ (meetR x y).2 = 0 ∧ e = .returned (.tuple #[.agg #[.slice A3 g.b.parts.length c3, .bool g.b.rest, .slice HA3 g.hs.length hc3], .bool true, .int .i64 0]) ∧ RegN w' B A3 c3 HA3 hc3 g) ∨
  ((meetR x y).1 = none ∧ e = .returned (.tuple #[.agg #[.slice none 0 0, .bool false, .slice none 0 0], .bool false, .int .i64 (meetR x y).2]))
theorem results_cell_tmps {fn : Func} {p q r : Tmp} {ty : TypeId} (h : fn.results = #[.cell p ty, .tmp q, .tmp r]) (tmps : Array Value) (P : Program) (w : World) :
    (results fn tmps).run P w = ((asAddr (tmps.getD p undef)).run P w).andThen fun a w₁ => ((loadVar ty a).run P w₁).andThen fun v w₂ => .ok (.tuple #[v, tmps.getD q undef, tmps.getD r undef]) w₂ := by
  simp only [results, h]
  simp [Sem.run_bind, Result.andThen]
end Go.Proofs.YtdndfkoklhfffaaGreatDoor
set_option linter.unusedVariables false
set_option linter.unusedSimpArgs false
namespace Go.Proofs.YtdndfkoklhfffaaGreatDoor
open Go Go.RowKit Sy

/-- The boxes of Meet: two regions, the result. -/
structure Box2Z (w1 : World) (B : Nat) (A : Option Addr) (n c : Nat) (re : Bool) (HA : Option Addr) (m hc : Nat) (A' : Option Addr) (n' c' : Nat) (re' : Bool) (HA' : Option Addr) (m' hc' : Nat) : Prop where
  two : Box2 w1 B A n c re HA m hc A' n' c' re' HA' m' hc'
  size : B + 3 ≤ w1.heap.size
  z0 : w1.cell? ⟨B + 2, 0, none⟩ = some (.slice none 0 0)
  z1 : w1.cell? ⟨B + 2, 1, none⟩ = some (.bool false)
  z2 : w1.cell? ⟨B + 2, 2, none⟩ = some (.slice none 0 0)
  fz : ∀ o, w1.frozen? ⟨B + 2, o, none⟩ = false
theorem Box2Z.calm {w1 w2 : World} {B : Nat} {A : Option Addr} {n c : Nat} {re : Bool} {HA : Option Addr} {m hc : Nat} {A' : Option Addr} {n' c' : Nat} {re' : Bool} {HA' : Option Addr} {m' hc' : Nat} (h : Box2Z w1 B A n c re HA m hc A' n' c' re' HA' m' hc') (hcm : Calm w1 w2) : Box2Z w2 B A n c re HA m hc A' n' c' re' HA' m' hc' := by
  have h2 : B + 2 < w1.heap.size := by have := h.size; omega
  exact ⟨h.two.calm hcm, Nat.le_trans h.size hcm.size, hcm.at_ h.z0 h2, hcm.at_ h.z1 h2, hcm.at_ h.z2 h2, fun o => (hcm.frozen (p := ⟨B + 2, o, none⟩) h2).trans (h.fz o)⟩
/-- What Meet holds behind Reduce. -/
structure RedAt (w5 wx : World) (B10 : Nat) (A3 : Option Addr) (n3 c3 : Nat) (re3 : Bool) (HA3 : Option Addr) (m3 hc3 : Nat) (B : Nat) (g : Reg) : Prop where
  calm : Calm w5 wx
  lt : B10 < wx.heap.size
  c0 : wx.cell? ⟨B10, 0, none⟩ = some (.slice A3 n3 c3)
  c1 : wx.cell? ⟨B10, 1, none⟩ = some (.bool re3)
  c2 : wx.cell? ⟨B10, 2, none⟩ = some (.slice HA3 m3 hc3)
  reg : RegN wx B A3 c3 HA3 hc3 g
theorem RedAt.to {w5 wx wy : World} {B10 : Nat} {A3 : Option Addr} {n3 c3 : Nat} {re3 : Bool} {HA3 : Option Addr} {m3 hc3 B : Nat} {g : Reg} (h : RedAt w5 wx B10 A3 n3 c3 re3 HA3 m3 hc3 B g) (hc : Calm wx wy) : RedAt w5 wy B10 A3 n3 c3 re3 HA3 m3 hc3 B g :=
  ⟨h.calm.trans hc, Nat.lt_of_lt_of_le h.lt hc.size, hc.at_ h.c0 h.lt, hc.at_ h.c1 h.lt, hc.at_ h.c2 h.lt, h.reg.calm hc⟩
theorem void_v (g : Reg) (v : Bool) (n m : Nat) (re : Bool) (A : Option Addr) (c : Nat) (HA : Option Addr) (hc : Nat) (w : World) (h : RegA w A c HA g.b g.hs) (hv : (gLen g == 0) = v) (hn : g.b.parts.length = n) (hm : g.hs.length = m) (hre : g.b.rest = re) :
    Calls Tryz.prog 24 #[.agg #[.slice A n c, .bool re], .slice HA m hc] w fun e w' => e = .returned (.bool v) ∧ Calm w w' := by
  have := void_c g.b g.hs A c HA hc w h.base h.holes
  unfold gLen at hv
  subst hv hn hm hre
  exact this
theorem calm3 {w wr : World} {B o : Nat} (h : Calm w wr) (hB : w.heap.size ≤ B) (u0 u1 u2 : Value) : Calm w (((wr.setCell ⟨B, 0, none⟩ u0).setCell ⟨B, 1, none⟩ u1).setCell ⟨B, 2, none⟩ u2) :=
  Below.setCell (Below.setCell (Below.setCell h hB _) hB _) hB _

/-- A zero region in a block. -/
structure ZeroAt (W : World) (b : Nat) : Prop where
  lt : b < W.heap.size
  z0 : W.cell? ⟨b, 0, none⟩ = some (.slice none 0 0)
  z1 : W.cell? ⟨b, 1, none⟩ = some (.bool false)
  z2 : W.cell? ⟨b, 2, none⟩ = some (.slice none 0 0)
  f0 : W.frozen? ⟨b, 0, none⟩ = false
  f1 : W.frozen? ⟨b, 1, none⟩ = false
  f2 : W.frozen? ⟨b, 2, none⟩ = false
theorem ZeroAt.calm {W W' : World} {b : Nat} (h : ZeroAt W b) (hc : Calm W W') : ZeroAt W' b :=
  ⟨Nat.lt_of_lt_of_le h.lt hc.size, hc.at_ h.z0 h.lt, hc.at_ h.z1 h.lt, hc.at_ h.z2 h.lt, (hc.frozen (p := ⟨b, 0, none⟩) h.lt).trans h.f0, (hc.frozen (p := ⟨b, 1, none⟩) h.lt).trans h.f1, (hc.frozen (p := ⟨b, 2, none⟩) h.lt).trans h.f2⟩
theorem zero_a (w : World) (X : Obj) : ZeroAt ((w.alloc (.cells #[.slice none 0 0, .bool false, .slice none 0 0] 27)).alloc X).drew w.heap.size := by
  constructor <;> simp [go_sem]
theorem zero_b (w : World) (X : Obj) : ZeroAt ((w.alloc X).alloc (.cells #[.slice none 0 0, .bool false, .slice none 0 0] 27)).drew (w.heap.size + 1) := by
  constructor <;> simp [go_sem]
theorem zero_c (w : World) : ZeroAt (w.alloc (.cells #[.slice none 0 0, .bool false, .slice none 0 0] 27)) w.heap.size := by
  constructor <;> simp [go_sem]
theorem redAt_set {w4 w7 : World} {b B P : Nat} {A3 : Option Addr} {n3 c3 : Nat} {re3 : Bool} {HA3 : Option Addr} {m3 hc3 : Nat} {g : Reg} (hz : ZeroAt w7 b) (hcy : Calm w4 w7) (h4 : w4.heap.size ≤ b) (hb : b < P) (hP : B ≤ P) (hreg : RegN w7 P A3 c3 HA3 hc3 g) :
    RedAt w4 (((w7.setCell ⟨b, 0, none⟩ (.slice A3 n3 c3)).setCell ⟨b, 1, none⟩ (.bool re3)).setCell ⟨b, 2, none⟩ (.slice HA3 m3 hc3)) b A3 n3 c3 re3 HA3 m3 hc3 B g := by
  refine ⟨calm3 (o := 0) hcy h4 _ _ _, by simpa using hz.lt, ?_, ?_, ?_, (((hreg.set (p := ⟨b, 0, none⟩) _ hb).set (p := ⟨b, 1, none⟩) _ hb).set (p := ⟨b, 2, none⟩) _ hb).mono hP⟩
  · rw [World.cell?_setCell_other _ _ _ _ (by simp), World.cell?_setCell_other _ _ _ _ (by simp)]
    exact World.cell?_setCell_same' _ _ _ (by rw [hz.z0]; rfl)
  · rw [World.cell?_setCell_other _ _ _ _ (by simp)]
    exact World.cell?_setCell_same' _ _ _ (by rw [World.cell?_setCell_other _ _ _ _ (by simp), hz.z1]; rfl)
  · exact World.cell?_setCell_same' _ _ _ (by rw [World.cell?_setCell_other _ _ _ _ (by simp), World.cell?_setCell_other _ _ _ _ (by simp), hz.z2]; rfl)
theorem redAt_new {w4 w7 : World} {B P : Nat} {A3 : Option Addr} {n3 c3 : Nat} {re3 : Bool} {HA3 : Option Addr} {m3 hc3 : Nat} {g : Reg} (hcy : Calm w4 w7) (hP : B ≤ P) (hreg : RegN w7 P A3 c3 HA3 hc3 g) :
    RedAt w4 (w7.alloc (.cells #[.slice A3 n3 c3, .bool re3, .slice HA3 m3 hc3] 27)) w7.heap.size A3 n3 c3 re3 HA3 m3 hc3 B g := by
  have hcA : Calm w7 (w7.alloc (.cells #[.slice A3 n3 c3, .bool re3, .slice HA3 m3 hc3] 27)) := (Calm.refl w7).alloc _
  exact ⟨hcy.trans hcA, by simp [go_sem], by simp [go_sem], by simp [go_sem], by simp [go_sem], (hreg.mono hP).calm hcA⟩

set_option maxRecDepth 100000 in
set_option maxHeartbeats 16000000 in
theorem gmeet_c (x y : Reg) (n m n' m' : Nat) (re re' : Bool) (A : Option Addr) (c : Nat) (HA : Option Addr) (hc : Nat) (A' : Option Addr) (c' : Nat) (HA' : Option Addr) (hc' : Nat) (w : World) (h : RegA w A c HA x.b x.hs) (h' : RegA w A' c' HA' y.b y.hs)
    (hn : x.b.parts.length = n) (hm : x.hs.length = m) (hre : x.b.rest = re) (hn' : y.b.parts.length = n') (hm' : y.hs.length = m') (hre' : y.b.rest = re') (hl : m + m' ≤ 16384) :
    Calls Tryz.prog 10 #[.agg #[.slice A n c, .bool re, .slice HA m hc], .agg #[.slice A' n' c', .bool re', .slice HA' m' hc']] w fun e w' => MeetREnd x y w.heap.size e w' ∧ Calm w w' := by
  obtain ⟨w1, hw1⟩ : ∃ w1, w1 = ((w.alloc (.cells #[.slice A n c, .bool re, .slice HA m hc] 27)).alloc (.cells #[.slice A' n' c', .bool re', .slice HA' m' hc'] 27)).alloc (.cells #[.slice none 0 0, .bool false, .slice none 0 0] 27) := ⟨_, rfl⟩
  have hc1 : Calm w w1 := by rw [hw1]; exact (((Calm.refl w).alloc _).alloc _).alloc _
  have hbox : Box2Z w1 w.heap.size A n c re HA m hc A' n' c' re' HA' m' hc' := by
    rw [hw1]
    exact ⟨⟨by simp, by simp [go_sem], by simp [go_sem], by simp [go_sem], by simp [go_sem], by simp [go_sem], by simp [go_sem]⟩, by simp, by simp [go_sem], by simp [go_sem], by simp [go_sem], fun o => by simp [go_sem]⟩
  obtain ⟨v, hv⟩ : ∃ v, bothErr x y = v := ⟨_, rfl⟩
  have K0 := both_c x y v n m n' m' re re' A c HA hc A' c' HA' hc' w1 (h.calm hc1) (h'.calm hc1) hv hn hm hre hn' hm' hre'
  have HX := Lib.hid (h.calm hc1)
  have HY := Lib.hid (h'.calm hc1)
  have HN := Lib.hid (And.intro hn (And.intro hm hre))
  have HN' := Lib.hid (And.intro hn' (And.intro hm' hre'))
  have HW := Lib.hid hw1
  have HC := Lib.hid hc1
  have HB := Lib.hid hbox
  have HV := Lib.hid hv
  clear hw1 hc1 hbox h h' hn hm hre hn' hm' hre' hv
  by_cases h0 : v = 0
  · subst h0
    obtain ⟨gx, gy⟩ := bothErr_zero HV.out
    obtain ⟨gx1, gx2, _⟩ := gErr_zero gx
    obtain ⟨gy1, gy2, _⟩ := gErr_zero gy
    rcases hmt : meetP x.b y.b with _ | mm
    · have hE : Hid ((meetR x y).1 = none ∧ (meetR x y).2 = 0) := by
        show (meetR x y).1 = none ∧ (meetR x y).2 = 0
        unfold meetR
        rw [if_neg (by simpa using HV.out), hmt]
        exact ⟨rfl, rfl⟩
      have KM : Hid (∀ W, Calm w1 W → Calls Tryz.prog 21 #[.agg #[.slice A n c, .bool re], .agg #[.slice A' n' c', .bool re']] W fun e w' => e = .returned (.tuple #[.agg #[.slice none 0 0, .bool false], .bool false]) ∧ Calm W w') := fun W hW => by
        have hx := HX.out.calm hW
        have hy := HY.out.calm hW
        have := meet_no x.b y.b A A' c c' W ⟨hx.base, hx.room, hx.cap⟩ ⟨hy.base, hy.room, hy.cap⟩ gx1 gy1 hmt
        rw [HN.out.1, HN.out.2.2, HN'.out.1, HN'.out.2.2] at this
        exact this
      clear gx gy gx1 gx2 gy1 gy2 hmt
      go_enter Tryz.func10, Tryz.ntmps10
      go_wp2_with fail
      rw [← HW.out]
      refine K0.mono ?_
      rintro e w2 ⟨rfl, hc2⟩
      have b2 := HB.out.calm hc2
      have x0 := b2.two.x0
      have x1 := b2.two.x1
      have y0 := b2.two.y0
      have y1 := b2.two.y1
      clear b2
      go_wp2_with fail
      refine (KM.out w2 hc2).mono ?_
      rintro e w3 ⟨rfl, hc3⟩
      have HC4 := Lib.hid (HC.out.trans (hc2.trans (hc3.trans ((Calm.refl w3).alloc (.cells #[.slice none 0 0, .bool false] 24)))))
      have b4 := HB.out.calm (hc2.trans (hc3.trans ((Calm.refl w3).alloc (.cells #[.slice none 0 0, .bool false] 24))))
      have z0 := b4.z0
      have z1 := b4.z1
      have z2 := b4.z2
      have f0 := b4.fz 0
      have f1 := b4.fz 1
      have f2 := b4.fz 2
      clear hc2 hc3 b4 KM K0 x0 x1 y0 y1
      go_wp2
      refine bodyPost_ret (v := .tuple #[.agg #[.slice none 0 0, .bool false, .slice none 0 0], .bool false, .int .i64 0]) ?_ rfl ⟨.inr ⟨hE.out.1, by rw [hE.out.2]⟩, calm3 (o := 0) HC4.out (by omega) _ _ _⟩
      rw [results_cell_tmps rfl]
      go_simp
    · obtain ⟨N, hN⟩ : ∃ N, (x.hs ++ y.hs).length = N := ⟨_, rfl⟩
      have hN2 : N ≤ 16384 := by rw [← hN, List.length_append, HN.out.2.1, HN'.out.2.1]; exact hl
      obtain ⟨g, hg⟩ : ∃ g, meetG mm x y = g := ⟨_, rfl⟩
      obtain ⟨gn, hgn⟩ : ∃ gn, mm.parts.length = gn := ⟨_, rfl⟩
      obtain ⟨gr, hgr⟩ : ∃ gr, mm.rest = gr := ⟨_, rfl⟩
      obtain ⟨gm, hgm⟩ : ∃ gm, (redL mm (x.hs ++ y.hs)).length = gm := ⟨_, rfl⟩
      have hgmN : gm ≤ N := by rw [← hgm, ← hN]; exact redL_len _ _
      have KM : Hid (∀ W, Calm w1 W → Calls Tryz.prog 21 #[.agg #[.slice A n c, .bool re], .agg #[.slice A' n' c', .bool re']] W fun e w' => (∃ A2 c2, e = .returned (.tuple #[.agg #[.slice A2 gn c2, .bool gr], .bool true]) ∧ SmallN w' W.heap.size ⟨A2, c2, mm⟩) ∧ Calm W w') := fun W hW => by
        have hx := HX.out.calm hW
        have hy := HY.out.calm hW
        have := meet_yes x.b y.b mm A A' c c' W ⟨hx.base, hx.room, hx.cap⟩ ⟨hy.base, hy.room, hy.cap⟩ gx1 gy1 hmt
        rw [HN.out.1, HN.out.2.2, HN'.out.1, HN'.out.2.2, hgn, hgr] at this
        exact this
      have HGo : Hid (∀ A2 c2 AC cC W, PatA W A2 c2 mm → PatsR W AC (x.hs ++ y.hs) → Calls Tryz.prog 22 #[.agg #[.slice A2 gn c2, .bool gr], .slice AC N cC] W fun e w' => (∃ A3 c3 HA3 hc3, e = .returned (.agg #[.slice A3 gn c3, .bool gr, .slice HA3 gm hc3]) ∧ NewS w' W.heap.size A3 c3 mm.parts ∧ PatsN w' W.heap.size HA3 hc3 (redL mm (x.hs ++ y.hs))) ∧ Calm W w') := fun A2 c2 AC cC W h1 h2 => by
        have := reduce_c mm (x.hs ++ y.hs) A2 c2 AC N cC W h1 h2 hN (meetP_some hmt).2.2.2 (fun p hp => (List.mem_append.1 hp).elim (gx2 p) (gy2 p))
        unfold RedEnd at this
        rw [hgn, hgr, hgm] at this
        exact this
      have HMt := Lib.hid (And.intro hmt (And.intro hg (And.intro hgn (And.intro hgr (And.intro hgm hN)))))
      have hE1 : Hid (64 < gm → (meetR x y).1 = none ∧ (meetR x y).2 = 52) := fun hlt => by
        have h2 : 64 < (meetG mm x y).hs.length := by show 64 < (redL mm (x.hs ++ y.hs)).length; rw [hgm]; exact hlt
        unfold meetR
        rw [if_neg (by simpa using HV.out), hmt]
        simp only
        rw [if_pos h2]
        exact ⟨rfl, rfl⟩
      have hE2 : Hid (¬ 64 < gm → gLen g = 0 → (meetR x y).1 = none ∧ (meetR x y).2 = 0) := fun hlt hz => by
        have h2 : ¬ 64 < (meetG mm x y).hs.length := by show ¬ 64 < (redL mm (x.hs ++ y.hs)).length; rw [hgm]; exact hlt
        unfold meetR
        rw [if_neg (by simpa using HV.out), hmt]
        simp only
        rw [if_neg h2, hg, if_pos hz]
        exact ⟨rfl, rfl⟩
      have hE3 : Hid (¬ 64 < gm → gLen g ≠ 0 → (meetR x y).1 = some g ∧ (meetR x y).2 = 0) := fun hlt hz => by
        have h2 : ¬ 64 < (meetG mm x y).hs.length := by show ¬ 64 < (redL mm (x.hs ++ y.hs)).length; rw [hgm]; exact hlt
        unfold meetR
        rw [if_neg (by simpa using HV.out), hmt]
        simp only
        rw [if_neg h2, hg, if_neg hz]
        exact ⟨rfl, rfl⟩
      clear gx gy gx1 gx2 gy1 gy2 hmt hg hgn hgr hgm hN
      go_enter Tryz.func10, Tryz.ntmps10
      go_wp2_with fail
      rw [← HW.out]
      refine K0.mono ?_
      rintro e w2 ⟨rfl, hc2⟩
      have b2 := HB.out.calm hc2
      have x0 := b2.two.x0
      have x1 := b2.two.x1
      have y0 := b2.two.y0
      have y1 := b2.two.y1
      clear b2
      go_wp2_with fail
      refine (KM.out w2 hc2).mono ?_
      rintro e w3 ⟨⟨A2, c2, rfl, hs3⟩, hc3⟩
      clear x0 x1 y0 y1
      go_upto_region 7 with (fail)
      obtain ⟨w4, hw4⟩ : ∃ w4, w4 = w3.alloc (.cells #[.slice A2 gn c2, .bool gr] 24) := ⟨_, rfl⟩
      rw [← hw4]
      have hc4 : Calm w3 w4 := by rw [hw4]; exact (Calm.refl w3).alloc _
      have t0 : w4.cell? ⟨w3.heap.size, 0, none⟩ = some (.slice A2 gn c2) := by rw [hw4]; simp [go_sem]
      have t1 : w4.cell? ⟨w3.heap.size, 1, none⟩ = some (.bool gr) := by rw [hw4]; simp [go_sem]
      have tlt : w3.heap.size < w4.heap.size := by rw [hw4]; simp [go_sem]
      have HC4 := Lib.hid (hc2.trans (hc3.trans hc4))
      have HS4 := Lib.hid (hs3.calm hc4)
      have hBx := HB.out.calm HC4.out
      have hw2s : w.heap.size ≤ w2.heap.size := (HC.out.trans hc2).size
      have HSX : Hid (∀ W, Calm w4 W → W.cell? ⟨w3.heap.size, 0, none⟩ = some (.slice A2 gn c2) ∧ W.cell? ⟨w3.heap.size, 1, none⟩ = some (.bool gr) ∧ W.cell? ⟨w.heap.size, 2, none⟩ = some (.slice HA m hc) ∧ W.cell? ⟨w.heap.size + 1, 2, none⟩ = some (.slice HA' m' hc')) := fun W hW =>
        ⟨Calm.at_ hW t0 tlt, Calm.at_ hW t1 tlt, Calm.at_ hW hBx.two.x2 (by have := hBx.size; omega), Calm.at_ hW hBx.two.y2 (by have := hBx.size; omega)⟩
      have HW2s := Lib.hid hw2s
      clear hw4 hc2 hc3 hc4 hs3 t0 t1 tlt hBx hw2s KM K0
      have KCat : Hid (∀ W gg, Calm w4 W → W.cell? ⟨gg, 0, none⟩ = some (.slice HA m hc) → W.cell? ⟨gg, 1, none⟩ = some (.slice HA' m' hc') → gg < W.heap.size → Calls Tryz.prog 23 #[.slice (some ⟨gg, 0, none⟩) 2 2] W fun e w' => (∃ AC cC, e = .returned (.slice AC N cC) ∧ PatsR w' AC (x.hs ++ y.hs)) ∧ Calm W w') := fun W gg hW k0 k1 hgg => by
        have := concat_c x.hs y.hs HA HA' m m' hc hc' gg 2 W (HX.out.calm (HC4.out.trans hW)).holes (HY.out.calm (HC4.out.trans hW)).holes HN.out.2.1 HN'.out.2.1 hl k0 k1 hgg
        unfold CatEnd at this
        rw [HMt.out.2.2.2.2.2] at this
        exact this
      go_cut [10] (fun s wx => ∃ B10 A3 c3 HA3 hc3, s = .pointer (some ⟨B10, 0, none⟩) ∧ Hid (RedAt w4 wx B10 A3 gn c3 gr HA3 gm hc3 (w.heap.size + 3) g))
      case first =>
        go_region_held3 (fun W => W.cell? ⟨w3.heap.size, 0, none⟩ = some (.slice A2 gn c2) ∧ W.cell? ⟨w3.heap.size, 1, none⟩ = some (.bool gr) ∧ W.cell? ⟨w.heap.size, 2, none⟩ = some (.slice HA m hc) ∧ W.cell? ⟨w.heap.size + 1, 2, none⟩ = some (.slice HA' m' hc'))
          (first
            | exact HSX.out _ (Below.drew (Calm.refl _))
            | exact HSX.out _ (Below.drew ((Calm.refl _).alloc _))
            | exact HSX.out _ (Below.drew (((Calm.refl _).alloc _).alloc _))
            | exact HSX.out _ hcy
            | exact HSX.out _ (hcy.alloc _)
            | exact HSX.out _ (calm3 (o := 0) hcy hcx.size _ _ _)
            | exact HSX.out _ (calm3 (o := 0) hcy (Nat.le_refl _) _ _ _)
            | exact HSX.out _ (calm3 (o := 0) hcy (Nat.le_succ _) _ _ _)
            | exact HSX.out _ hcx
            | exact HSX.out _ (hcx.alloc _)
            | go_keep)
          (first
            | (go_at_call 23; refine (KCat.out _ _ (by first | exact Below.drew ((Calm.refl _).alloc _) | exact Below.drew (((Calm.refl _).alloc _).alloc _) | exact Below.drew (Calm.refl _)) (by simp [go_sem]) (by simp [go_sem]) (by simp [go_sem])).mono ?_; rintro e w6 ⟨⟨AC, cC, rfl, hP6⟩, hcC⟩; have hcx : Calm w4 w6 := Calm.trans (by first | exact Below.drew ((Calm.refl _).alloc _) | exact Below.drew (((Calm.refl _).alloc _).alloc _) | exact Below.drew (Calm.refl _)) hcC)
            | (go_at_call 22; refine (HGo.out A2 c2 AC cC _ (HS4.out.calm (hcx.trans (by first | exact Calm.refl _ | exact (Calm.refl _).alloc _))).a (hP6.calm (by first | exact Calm.refl _ | exact (Calm.refl _).alloc _))).mono ?_; rintro e w7 ⟨⟨A3, c3, HA3, hc3, rfl, hn7, hp7⟩, hc7⟩; (first | have hZ7 : ZeroAt w7 w6.heap.size := ZeroAt.calm (zero_c _) hc7 | have hZ7 : ZeroAt w7 w4.heap.size := ZeroAt.calm (ZeroAt.calm (zero_a _ _) hcC) hc7 | have hZ7 : ZeroAt w7 (w4.heap.size + 1) := ZeroAt.calm (ZeroAt.calm (zero_b _ _) hcC) hc7 | skip); have hcy : Calm w4 w7 := Calm.trans (hcx.trans (by first | exact Calm.refl _ | exact (Calm.refl _).alloc _)) hc7; try (have z0 := hZ7.z0; have z1 := hZ7.z1; have z2 := hZ7.z2; have f0 := hZ7.f0; have f1 := hZ7.f1; have f2 := hZ7.f2)))
        all_goals
          have hreg7 := regN_of hn7 hp7 HS4.out.few HS4.out.each
          have hsz6 : w.heap.size + 3 ≤ w4.heap.size := (HB.out.calm HC4.out).size
          have hsz7 := hcC.size
          have hsz8 := hcx.size
          simp [go_sem] at hsz7
          have hR := HMt.out.2.1
          unfold meetG at hR
          go_wp2_with fail
          go_meet
          case rel =>
            first
              | exact ⟨_, _, _, _, _, rfl, hR ▸ redAt_new hcy (by omega) hreg7⟩
              | exact ⟨_, _, _, _, _, rfl, hR ▸ redAt_set hZ7 hcy (by omega) (by simp [go_sem]) (by simp [go_sem]; omega) hreg7⟩
              | exact ⟨_, _, _, _, _, rfl, hR ▸ redAt_set hZ7 hcy (by omega) (by omega) (by omega) hreg7⟩
      case rest =>
        obtain ⟨B10, A3, c3, HA3, hc3, rfl, HR⟩ := hcut
        have c0 := HR.out.c0
        have c1 := HR.out.c1
        have c2 := HR.out.c2
        have hlt := HR.out.lt
        have hbz := HB.out.calm (HC4.out.trans HR.out.calm)
        have z0 := hbz.z0
        have z1 := hbz.z1
        have z2 := hbz.z2
        have f0 := hbz.fz 0
        have f1 := hbz.fz 1
        have f2 := hbz.fz 2
        have HCr := Lib.hid (HC.out.trans (HC4.out.trans HR.out.calm))
        have HBz := Lib.hid hbz
        clear hbz
        by_cases h64 : 64 < gm
        · have hE := Lib.hid (hE1.out h64)
          go_wp2
          refine bodyPost_ret (v := .tuple #[.agg #[.slice none 0 0, .bool false, .slice none 0 0], .bool false, .int .i64 52]) ?_ rfl ⟨.inr ⟨hE.out.1, by rw [hE.out.2]⟩, calm3 (o := 0) HCr.out (by omega) _ _ _⟩
          rw [results_cell_tmps rfl]
          go_simp
        · obtain ⟨vz, hvz⟩ : ∃ vz, (gLen g == 0) = vz := ⟨_, rfl⟩
          have KV : Hid (∀ W, Calm wc W → Calls Tryz.prog 24 #[.agg #[.slice A3 gn c3, .bool gr], .slice HA3 gm hc3] W fun e w' => e = .returned (.bool vz) ∧ Calm W w') := fun W hW =>
            void_v g vz gn gm gr A3 c3 HA3 hc3 W ((HR.out.reg.calm hW).a (by rw [← HMt.out.2.1]; show (redL mm (x.hs ++ y.hs)).length ≤ 16384; rw [HMt.out.2.2.2.2.1]; omega)) hvz (by rw [← HMt.out.2.1]; exact HMt.out.2.2.1) (by rw [← HMt.out.2.1]; exact HMt.out.2.2.2.2.1) (by rw [← HMt.out.2.1]; exact HMt.out.2.2.2.1)
          have h64' : Hid (¬ 64 < gm) := h64
          cases vz with
          | true =>
            have hE := Lib.hid (hE2.out h64 (by simpa using hvz))
            clear hvz z0 z1 z2 f0 f1 f2
            go_wp2_with fail
            refine (KV.out wc (Calm.refl _)).mono ?_
            rintro e w9 ⟨rfl, hc9⟩
            have hb9 := HBz.out.calm hc9
            have z0 := hb9.z0
            have z1 := hb9.z1
            have z2 := hb9.z2
            have f0 := hb9.fz 0
            have f1 := hb9.fz 1
            have f2 := hb9.fz 2
            clear hb9
            go_wp2
            refine bodyPost_ret (v := .tuple #[.agg #[.slice none 0 0, .bool false, .slice none 0 0], .bool false, .int .i64 0]) ?_ rfl ⟨.inr ⟨hE.out.1, by rw [hE.out.2]⟩, calm3 (o := 0) (HCr.out.trans hc9) (by omega) _ _ _⟩
            rw [results_cell_tmps rfl]
            go_simp
          | false =>
            have hE := Lib.hid (hE3.out h64 (by simpa using hvz))
            clear hvz z0 z1 z2 f0 f1 f2 c0 c1 c2
            have c0 := HR.out.c0
            have c1 := HR.out.c1
            have c2 := HR.out.c2
            go_wp2_with fail
            refine (KV.out wc (Calm.refl _)).mono ?_
            rintro e w9 ⟨rfl, hc9⟩
            have hb9 := HBz.out.calm hc9
            have z0 := hb9.z0
            have z1 := hb9.z1
            have z2 := hb9.z2
            have f0 := hb9.fz 0
            have f1 := hb9.fz 1
            have f2 := hb9.fz 2
            have hr9 := HR.out.to hc9
            clear c0 c1 c2
            have c0 := hr9.c0
            have c1 := hr9.c1
            have c2 := hr9.c2
            have hr3 := hr9.reg
            have HCz := Lib.hid (HCr.out.trans hc9)
            have hlen : g.b.parts.length = gn ∧ g.b.rest = gr ∧ g.hs.length = gm := by
              rw [← HMt.out.2.1]
              exact ⟨HMt.out.2.2.1, HMt.out.2.2.2.1, HMt.out.2.2.2.2.1⟩
            have hD := fun (u0 u1 u2 : Value) => Lib.hid (show MeetREnd x y w.heap.size (.returned (.tuple #[.agg #[.slice A3 gn c3, .bool gr, .slice HA3 gm hc3], .bool true, .int .i64 0])) (((w9.setCell ⟨w.heap.size + 2, 0, none⟩ u0).setCell ⟨w.heap.size + 2, 1, none⟩ u1).setCell ⟨w.heap.size + 2, 2, none⟩ u2) from
              .inl ⟨g, A3, c3, HA3, hc3, hE.out.1, hE.out.2, by rw [hlen.1, hlen.2.1, hlen.2.2], (((hr3.set (p := ⟨w.heap.size + 2, 0, none⟩) u0 (Nat.lt_succ_self _)).set (p := ⟨w.heap.size + 2, 1, none⟩) u1 (Nat.lt_succ_self _)).set (p := ⟨w.heap.size + 2, 2, none⟩) u2 (Nat.lt_succ_self _)).mono (by omega)⟩)
            clear hr9 hr3 hc9 hlen
            go_wp2
            refine bodyPost_ret (v := .tuple #[.agg #[.slice A3 gn c3, .bool gr, .slice HA3 gm hc3], .bool true, .int .i64 0]) ?_ rfl ⟨(hD _ _ _).out, calm3 (o := 0) HCz.out (by omega) _ _ _⟩
            rw [results_cell_tmps rfl]
            go_simp
  · have hE : Hid ((meetR x y).1 = none ∧ (meetR x y).2 = v) := by
      show (meetR x y).1 = none ∧ (meetR x y).2 = v
      unfold meetR
      rw [HV.out, if_pos h0]
      exact ⟨rfl, rfl⟩
    have hb : (v == 0) = false := by simpa using h0
    clear h0
    go_enter Tryz.func10, Tryz.ntmps10
    go_wp2_with fail
    rw [← HW.out]
    refine K0.mono ?_
    rintro e w2 ⟨rfl, hc2⟩
    have b2 := HB.out.calm hc2
    have z0 := b2.z0
    have z1 := b2.z1
    have z2 := b2.z2
    have f0 := b2.fz 0
    have f1 := b2.fz 1
    have f2 := b2.fz 2
    have HC4 := Lib.hid (HC.out.trans hc2)
    clear b2 hc2 K0
    go_wp2
    refine bodyPost_ret (v := .tuple #[.agg #[.slice none 0 0, .bool false, .slice none 0 0], .bool false, .int .i64 v]) ?_ rfl ⟨.inr ⟨hE.out.1, by rw [hE.out.2]⟩, calm3 (o := 0) HC4.out (by omega) _ _ _⟩
    rw [results_cell_tmps rfl]
    go_simp
end Go.Proofs.YtdndfkoklhfffaaGreatDoor
