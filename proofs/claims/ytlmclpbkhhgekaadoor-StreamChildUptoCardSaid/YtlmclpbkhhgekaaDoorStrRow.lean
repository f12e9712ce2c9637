/- Rows of streams and of path lines of the call's own. -/
import Derived.Test.YtlmclpbkhhgekaaDoorAppX
import Derived.Test.YtlmclpbkhhgekaaDoorStrMem
import Derived.Test.YtlmclpbkhhgekaaDoorStrLaw
set_option linter.unusedVariables false
set_option linter.unusedSimpArgs false
namespace Go.Proofs.YtlmclpbkhhgekaaDoor
open Go Go.RowKit Sy

/-- A stream, and where its lines lie. -/
structure NewT where
  A : Option Addr
  c : Nat
  s : Strm
deriving Inhabited
/-- A path line, and where its parts lie. -/
structure NewL where
  a : Pl
  x : Line
deriving Inhabited
def encT (y : NewT) : List Value := [.string (bs y.s.name), .string (bs y.s.parent), .slice y.A y.s.paths.length y.c]
def encL (y : NewL) : List Value := [.int .i64 y.x.kind, .slice y.a.AL y.x.path.parts.length y.a.cl, .bool y.x.path.rest, .slice y.a.AR y.x.frm.parts.length y.a.cr, .bool y.x.frm.rest]
theorem encT_len (x : NewT) : (encT x).length = 3 := rfl
theorem encL_len (x : NewL) : (encL x).length = 5 := rfl
theorem encT_one (x : NewT) : ∀ u ∈ encT x, u.oneCell' = true := by simp [encT, Value.oneCell']
theorem encL_one (x : NewL) : ∀ u ∈ encL x, u.oneCell' = true := by simp [encL, Value.oneCell']
theorem info_strm : (Tryd.prog.info? 38).map (fun i => (i.zero, i.size, i.bytes)) = some (some (.agg #[.string ByteArray.empty, .string ByteArray.empty, .slice none 0 0]), 3, 56) := by kernel_rfl
theorem info_line : (Tryd.prog.info? 35).map (fun i => (i.zero, i.size, i.bytes)) = some (some (.agg #[.int .i64 0, .slice none 0 0, .bool false, .slice none 0 0, .bool false]), 5, 72) := by kernel_rfl

/-- One witness for each index. -/
theorem choose_list {α β : Type} {R : Nat → α → β → Prop} : ∀ (l : List α), (∀ k x, l[k]? = some x → ∃ y, R k x y) → ∃ m : List β, m.length = l.length ∧ ∀ k x y, l[k]? = some x → m[k]? = some y → R k x y
  | [], _ => ⟨[], rfl, fun k x y h => by simp at h⟩
  | x :: l, h => by
    obtain ⟨y, hy⟩ := h 0 x rfl
    obtain ⟨m, hm, hr⟩ := choose_list (R := fun k x y => R (k + 1) x y) l (fun k z hz => h (k + 1) z (by simpa using hz))
    refine ⟨y :: m, by simp [hm], fun k z u hz hu => ?_⟩
    match k with
    | 0 =>
      simp only [List.getElem?_cons_zero, Option.some.injEq] at hz hu
      subst hz hu
      exact hy
    | k + 1 => exact hr k z u (by simpa using hz) (by simpa using hu)
theorem map_eq_of {α β : Type} {f : β → α} {l : List α} {m : List β} (hl : m.length = l.length) (h : ∀ (k : Nat) x y, l[k]? = some x → m[k]? = some y → f y = x) : m.map f = l := by
  apply List.ext_getElem
  · simpa using hl
  · intro k h1 h2
    rw [List.getElem_map]
    exact h k _ _ (List.getElem?_eq_getElem h2) (List.getElem?_eq_getElem (by simpa using h1))
theorem StrmsU.places {w : World} {A : Option Addr} {ss : List Strm} (h : StrmsU w A ss) : ∃ l : List NewT, l.map (·.s) = ss ∧ (∀ y ∈ l, StrmU w y.A y.c y.s) ∧ ReadX encT 3 w A l := by
  rcases Nat.eq_zero_or_pos ss.length with h0 | h0
  · have : ss = [] := List.eq_nil_of_length_eq_zero h0
    subst this
    exact ⟨[], rfl, (fun x hx => by cases hx), fun hne => absurd rfl hne⟩
  · obtain ⟨b, o, hA, hb, hk⟩ := h.at_ h0
    obtain ⟨m, hm, hr⟩ := choose_list (R := fun k (s : Strm) (y : NewT) => y.s = s ∧ StrmAt w b (o + k * 3) y.A y.c s ∧ StrmU w y.A y.c s) ss (fun k s hs => by
      obtain ⟨PA, pc, h1, h2⟩ := hk k s hs
      exact ⟨⟨PA, pc, s⟩, rfl, h1, h2⟩)
    refine ⟨m, map_eq_of hm (fun k x y hx hy => (hr k x y hx hy).1), fun y hy => ?_, fun _ => ⟨b, o, hA, hb, fun k y hy i u hu => ?_⟩⟩
    · obtain ⟨k, hk1, rfl⟩ := List.mem_iff_getElem.1 hy
      obtain ⟨e, _, h2⟩ := hr k _ _ (List.getElem?_eq_getElem (by omega)) (List.getElem?_eq_getElem hk1)
      rw [e]
      exact h2
    · have hk1 := (List.getElem?_eq_some_iff.1 hy).1
      obtain ⟨e, h1, _⟩ := hr k _ _ (List.getElem?_eq_getElem (by omega)) hy
      rw [← e] at h1
      match i, hu with
      | 0, hu => obtain rfl := Option.some.inj hu; exact h1.c0
      | 1, hu => obtain rfl := Option.some.inj hu; exact h1.c1
      | 2, hu => obtain rfl := Option.some.inj hu; exact h1.c2
      | i + 3, hu => simp [encT] at hu
theorem LinesU.places {w : World} {A : Option Addr} {ls : List Line} (h : LinesU w A ls) : ∃ l : List NewL, l.map (·.x) = ls ∧ (∀ y ∈ l, RuleU w y.a y.x.rule) ∧ ReadX encL 5 w A l := by
  rcases Nat.eq_zero_or_pos ls.length with h0 | h0
  · have : ls = [] := List.eq_nil_of_length_eq_zero h0
    subst this
    exact ⟨[], rfl, (fun x hx => by cases hx), fun hne => absurd rfl hne⟩
  · obtain ⟨b, o, hA, hb, hk⟩ := h.at_ h0
    obtain ⟨m, hm, hr⟩ := choose_list (R := fun k (s : Line) (y : NewL) => y.x = s ∧ LineAt w b (o + k * 5) y.a s ∧ RuleU w y.a s.rule) ls (fun k s hs => by
      obtain ⟨a, h1, h2⟩ := hk k s hs
      exact ⟨⟨a, s⟩, rfl, h1, h2⟩)
    refine ⟨m, map_eq_of hm (fun k x y hx hy => (hr k x y hx hy).1), fun y hy => ?_, fun _ => ⟨b, o, hA, hb, fun k y hy i u hu => ?_⟩⟩
    · obtain ⟨k, hk1, rfl⟩ := List.mem_iff_getElem.1 hy
      obtain ⟨e, _, h2⟩ := hr k _ _ (List.getElem?_eq_getElem (by omega)) (List.getElem?_eq_getElem hk1)
      rw [e]
      exact h2
    · have hk1 := (List.getElem?_eq_some_iff.1 hy).1
      obtain ⟨e, h1, _⟩ := hr k _ _ (List.getElem?_eq_getElem (by omega)) hy
      rw [← e] at h1
      match i, hu with
      | 0, hu => obtain rfl := Option.some.inj hu; exact h1.c0
      | 1, hu => obtain rfl := Option.some.inj hu; exact h1.c1
      | 2, hu => obtain rfl := Option.some.inj hu; exact h1.c2
      | 3, hu => obtain rfl := Option.some.inj hu; exact h1.c3
      | 4, hu => obtain rfl := Option.some.inj hu; exact h1.c4
      | i + 5, hu => simp [encL] at hu
theorem RowX.strms {w : World} {g : Nat} {T : TypeId} {l : List NewT} (h : RowX encT 3 T w g 0 l) (he : ∀ y ∈ l, StrmU w y.A y.c y.s) (hl : l.length ≤ 1048577) : StrmsU w (some ⟨g, 0, none⟩) (l.map (·.s)) := by
  refine ⟨by rw [List.length_map]; exact hl, fun _ => ⟨g, 0, rfl, h.lt, fun k s hs => ?_⟩⟩
  rw [List.getElem?_map] at hs
  obtain ⟨y, hy, rfl⟩ := Option.map_eq_some_iff.1 hs
  refine ⟨y.A, y.c, ⟨h.cell k y hy 0 _ rfl, h.cell k y hy 1 _ rfl, h.cell k y hy 2 _ rfl⟩, he y (List.mem_of_getElem? hy)⟩
theorem OwnX.strms {w0 wr : World} {v : Value} {l : List NewT} (h : OwnX encT 3 38 w0 wr v l) (he : ∀ y ∈ l, StrmU wr y.A y.c y.s) (hl : l.length ≤ 1048577) : ∃ A c, v = .slice A l.length c ∧ StrmsU wr A (l.map (·.s)) := by
  rcases h.row encT_len with ⟨rfl, h0⟩ | ⟨g, c, rfl, h1, h2, _, hr⟩
  · subst h0
    exact ⟨none, 0, rfl, by simp, fun h => absurd h (by simp)⟩
  · exact ⟨_, c, rfl, hr.strms he hl⟩
theorem OwnX.lines {w0 wr : World} {v : Value} {l : List NewL} (h : OwnX encL 5 35 w0 wr v l) (he : ∀ y ∈ l, RuleU wr y.a y.x.rule) (hl : l.length ≤ 1048577) : ∃ A c, v = .slice A l.length c ∧ l.length ≤ c ∧ c ≤ 9223372036854775807 ∧ LinesU wr A (l.map (·.x)) := by
  rcases h.row encL_len with ⟨rfl, h0⟩ | ⟨g, c, rfl, h1, h2, _, hr⟩
  · subst h0
    exact ⟨none, 0, rfl, Nat.le_refl _, by omega, by simp, fun h => absurd h (by simp)⟩
  · refine ⟨_, c, rfl, h1, h2, by rw [List.length_map]; exact hl, fun _ => ⟨g, 0, rfl, hr.lt, fun k s hs => ?_⟩⟩
    rw [List.getElem?_map] at hs
    obtain ⟨y, hy, rfl⟩ := Option.map_eq_some_iff.1 hs
    exact ⟨y.a, ⟨hr.cell k y hy 0 _ rfl, hr.cell k y hy 1 _ rfl, hr.cell k y hy 2 _ rfl, hr.cell k y hy 3 _ rfl, hr.cell k y hy 4 _ rfl⟩, he y (List.mem_of_getElem? hy)⟩
/-- One new element, as a slice of a block of its own. -/
theorem read_newL {w : World} {n : Nat} (y : NewL) (h : w.heap.size = n) : ReadX encL 5 (w.alloc (.cells #[.int .i64 y.x.kind, .slice y.a.AL y.x.path.parts.length y.a.cl, .bool y.x.path.rest, .slice y.a.AR y.x.frm.parts.length y.a.cr, .bool y.x.frm.rest] 35)) (some ⟨n, 0, none⟩) [y] := fun _ => by
  refine ⟨n, 0, rfl, by rw [← h]; simp [go_sem], fun k x hk i u hu => ?_⟩
  have h0 : k = 0 := by
    have := (List.getElem?_eq_some_iff.1 hk).1
    simp at this
    exact this
  subst h0
  obtain rfl : y = x := by simpa using hk
  subst h
  rw [cell_of_row _ w.heap.size _ _ _ _ (heap_alloc_new w _)]
  simpa [encL] using hu
theorem read_newT {w : World} {n : Nat} (y : NewT) (h : w.heap.size = n) : ReadX encT 3 (w.alloc (.cells #[.string (bs y.s.name), .string (bs y.s.parent), .slice y.A y.s.paths.length y.c] 38)) (some ⟨n, 0, none⟩) [y] := fun _ => by
  refine ⟨n, 0, rfl, by rw [← h]; simp [go_sem], fun k x hk i u hu => ?_⟩
  have h0 : k = 0 := by
    have := (List.getElem?_eq_some_iff.1 hk).1
    simp at this
    exact this
  subst h0
  obtain rfl : y = x := by simpa using hk
  subst h
  rw [cell_of_row _ w.heap.size _ _ _ _ (heap_alloc_new w _)]
  simpa [encT] using hu
theorem read_newL2 {w : World} {n : Nat} (a : Pl) (x : Line) {κ : Int} {np nf : Nat} {rp rf : Bool} (h : w.heap.size = n) (h0 : x.kind = κ) (h1 : x.path.parts.length = np) (h2 : x.frm.parts.length = nf) (h3 : x.path.rest = rp) (h4 : x.frm.rest = rf) : ReadX encL 5 (w.alloc (.cells #[.int .i64 κ, .slice a.AL np a.cl, .bool rp, .slice a.AR nf a.cr, .bool rf] 35)) (some ⟨n, 0, none⟩) [⟨a, x⟩] := by
  subst h0 h1 h2 h3 h4
  exact read_newL ⟨a, x⟩ h
/-- A store beside a row. -/
theorem OwnX.set1 {α : Type} {enc : α → List Value} {K : Nat} {T : TypeId} {w0 w : World} {v : Value} {l : List α} (h : OwnX enc K T w0 w v l) {p : Addr} (u : Value) (hge : w0.heap.size ≤ p.block) (hne : some p.block ≠ v.ownBlock) : OwnX enc K T w0 (w.setCell p u) v l := by
  refine ⟨Below.setCell h.calm hge _, h.own.1, ?_⟩
  rcases h.own.2 with h2 | ⟨g, cap, cur, hv, hg, hh, r⟩
  · exact .inl h2
  · refine .inr ⟨g, cap, cur, hv, hg, ?_, r⟩
    rw [Deep.blk_setCell_other _ _ _ _ (fun e => hne (by rw [← e, hv]; rfl))]
    exact hh
/-- The streams of a row with one stream's lines anew. -/
theorem more_strms {w w4 w8 : World} {g i n c8 : Nat} {A8 : Option Addr} {lT : List NewT} {lL : List NewL} {ss : List Strm} {x : Line} {y : NewT} (hs : lT.map (·.s) = ss) (hT : ∀ z ∈ lT, StrmU w z.A z.c z.s) (hr : RowX encT 3 38 w4 g 0 lT) (hg : w.heap.size ≤ g) (h4 : Calm w w4) (hy : lT[i]? = some y) (hyl : lL.map (·.x) = y.s.paths ++ [x]) (hL : ∀ z ∈ lL, RuleU w z.a z.x.rule) (hown : OwnX encL 5 35 w4 w8 (.slice A8 lL.length c8) lL) (hl : lL.length ≤ 1048577) (hlt : lT.length ≤ 1048577) :
    StrmsU (w8.setCell ⟨g, i * 3 + 2, none⟩ (.slice A8 lL.length c8)) (some ⟨g, 0, none⟩) (addLine ss i x) ∧ Calm w (w8.setCell ⟨g, i * 3 + 2, none⟩ (.slice A8 lL.length c8)) := by
  have hgl : g < w4.heap.size := hr.lt
  have hcw : Calm w (w8.setCell ⟨g, i * 3 + 2, none⟩ (.slice A8 lL.length c8)) := Below.setCell (h4.trans hown.calm) (p := ⟨g, i * 3 + 2, none⟩) hg _
  refine ⟨?_, hcw⟩
  have hi := (List.getElem?_eq_some_iff.1 hy).1
  have hys : strm ss i = y.s := by
    rw [← hs]
    exact strm_at (by rw [List.getElem?_map, hy]; rfl)
  have hp := (hr.calm hown.calm).put1 encT_len hy (j := 2) (u := .slice A8 lL.length c8) (y := ⟨A8, c8, ⟨y.s.name, y.s.parent, lL.map (·.x)⟩⟩) (by decide) (by simp [encT])
  rw [Nat.zero_add] at hp
  have hnew : OwnX encL 5 35 w (w8.setCell ⟨g, i * 3 + 2, none⟩ (.slice A8 lL.length c8)) (.slice A8 lL.length c8) lL := (hown.base h4).set1 _ hg (hown.far hgl)
  obtain ⟨A9, c9, e9, hc1, hc2, hLU⟩ := hnew.lines (fun z hz => (hL z hz).calm hcw) hl
  obtain ⟨rfl, _, rfl⟩ : A8 = A9 ∧ lL.length = lL.length ∧ c8 = c9 := by simpa using e9
  have h1 := hp.strms (fun z hz => by
    rcases List.mem_or_eq_of_mem_set hz with h | h
    · exact (hT z h).calm hcw
    · subst h
      have h2 := hT y (List.mem_of_getElem? hy)
      refine ⟨h2.name, h2.par, hLU, ?_, hc2⟩
      show (lL.map (·.x)).length ≤ c8
      rw [List.length_map]
      exact hc1) (by rw [List.length_set]; exact hlt)
  have h2 : (lT.set i ⟨A8, c8, ⟨y.s.name, y.s.parent, lL.map (·.x)⟩⟩).map (·.s) = addLine ss i x := by
    rw [List.map_set, hs]
    unfold addLine
    rw [hys, hyl]
  rw [h2] at h1
  exact h1
end Go.Proofs.YtlmclpbkhhgekaaDoor
