/- A slice of strings that a call itself makes by append: the word and the law of one step; strings.Split at '/'. -/
import Derived.OwnWalk
import Derived.Laws.AppendOwn
import Derived.Deep.AppendLies
import Derived.Test.YtglnkpgfdjnhnaaGreatDoorShelf
import Derived.Test.YtglnkpgfdjnhnaaGreatDoorZCalm
import Derived.Test.YtglnkpgfdjnhnaaGreatDoorZPath
set_option linter.unusedVariables false
set_option linter.unusedSimpArgs false
namespace Go.Proofs.YtglnkpgfdjnhnaaGreatDoor
open Go Go.RowKit Sy

/-- A pattern as it lies in a slice's row: where its parts lie, how many there is room for, what they are. -/
structure RawP where
  A : Option Addr
  c : Nat
  p : Pat
def RawP.cells (r : RawP) : List Value := [.slice r.A r.p.parts.length r.c, .bool r.p.rest]
def rawCells (rs : List RawP) : List Value := rs.flatMap RawP.cells
structure Raw (w : World) (r : RawP) : Prop where
  reads : StrsR w r.A r.p.parts
  fits : r.p.parts.length ≤ r.c
  cap : r.c ≤ 9223372036854775807
theorem Raw.calm {w w' : World} {r : RawP} (h : Raw w r) (hc : Calm w w') : Raw w' r := ⟨h.reads.calm hc, h.fits, h.cap⟩
theorem rawCells_snoc (rs : List RawP) (r : RawP) : rawCells (rs ++ [r]) = rawCells rs ++ [.slice r.A r.p.parts.length r.c, .bool r.p.rest] := by
  simp [rawCells, RawP.cells]
theorem rawCells_length (rs : List RawP) : (rawCells rs).length = rs.length * 2 := by
  induction rs with
  | nil => rfl
  | cons r rs ih =>
    simp only [rawCells, List.flatMap_cons, List.length_append, List.length_cons] at ih ⊢
    rw [ih]
    simp [RawP.cells]
    omega
theorem rawCells_at : ∀ (rs : List RawP) (k : Nat) (r : RawP), rs[k]? = some r → (rawCells rs)[k * 2]? = some (.slice r.A r.p.parts.length r.c) ∧ (rawCells rs)[k * 2 + 1]? = some (.bool r.p.rest)
  | [], k, r, h => by simp at h
  | a :: rs, 0, r, h => by
    simp only [List.getElem?_cons_zero, Option.some.injEq] at h
    subst h
    simp [rawCells, RawP.cells]
  | a :: rs, k + 1, r, h => by
    simp only [List.getElem?_cons_succ] at h
    have ih := rawCells_at rs k r h
    have e1 : (k + 1) * 2 = k * 2 + 2 := by omega
    have e2 : rawCells (a :: rs) = .slice a.A a.p.parts.length a.c :: .bool a.p.rest :: rawCells rs := rfl
    rw [e1, e2]
    exact ih

/-- What is owned stays so where only new blocks come. -/
theorem owns_calm {w w' : World} {base : Nat} {e : TypeId} {size n : Nat} {v : Value} {xs : List Value} (h : w.ownsRow base e size v n xs) (hc : Calm w w') : w'.ownsRow base e size v n xs := by
  obtain ⟨h1, h2⟩ := h
  refine ⟨h1, ?_⟩
  rcases h2 with h2 | ⟨g, cap, cur, hv, hg, hh, r⟩
  · exact .inl h2
  · have hlt : g < w.heap.size := by
      rcases Nat.lt_or_ge g w.heap.size with h | h
      · exact h
      · rw [Array.getElem?_eq_none h] at hh; cases hh
    exact .inr ⟨g, cap, cur, hv, hg, (hc.block g hlt).trans hh, r⟩
theorem owns_lt {w : World} {base : Nat} {e : TypeId} {size n : Nat} {v : Value} {xs : List Value} (h : w.ownsRow base e size v n xs) {k : Nat} (hk : v.ownBlock = some k) : base ≤ k ∧ k < w.heap.size := by
  rcases h.2 with ⟨rfl, _⟩ | ⟨g, cap, cur, rfl, hg, hh, _⟩
  · simp [Value.ownBlock] at hk
  · have hlt : g < w.heap.size := by
      rcases Nat.lt_or_ge g w.heap.size with h | h
      · exact h
      · rw [Array.getElem?_eq_none h] at hh; cases hh
    simp [Value.ownBlock] at hk
    subst hk
    exact ⟨hg, hlt⟩
/-- Behind an append onto a row of the call's own. -/
theorem owns_below {w w' : World} {B : Nat} {e : TypeId} {size n : Nat} {v : Value} {xs : List Value} (h : w.ownsRow B e size v n xs) (hB : B ≤ w.heap.size) (hg : w.grownBy w' v.ownBlock) : Below B w w' :=
  (Below.refl B w).grown hg hB (fun k hk => (owns_lt h hk).1)

theorem owns_pats {w1 w : World} {v : Value} {rs : List RawP} (h : w.ownsRow w1.heap.size 36 2 v rs.length (rawCells rs)) (hc : Calm w1 w) (hr : ∀ r ∈ rs, Raw w1 r) (hl : rs.length ≤ 16384) :
    ∃ A c, v = .slice A rs.length c ∧ PatsR w A (rs.map (·.p)) := by
  rcases h.2 with ⟨rfl, h0⟩ | ⟨g, cap, cur, rfl, hg, hh, hcap, hm, hs, ht⟩
  · exact ⟨none, 0, by rw [h0], by rw [List.length_map]; exact hl, fun h => by rw [List.length_map, h0] at h; omega⟩
  · have hlt : g < w.heap.size := by
      rcases Nat.lt_or_ge g w.heap.size with h | h
      · exact h
      · rw [Array.getElem?_eq_none h] at hh; cases hh
    refine ⟨_, cap, rfl, by rw [List.length_map]; exact hl, fun _ => ⟨g, 0, rfl, hlt, fun k p hk => ?_⟩⟩
    rw [List.getElem?_map] at hk
    obtain ⟨r, hk2, rfl⟩ := Option.map_eq_some_iff.1 hk
    obtain ⟨h1, h2⟩ := rawCells_at rs k r hk2
    have hcell := h.cells (g := g) rfl
    have d1 := hcell _ _ h1
    have d2 := hcell _ _ h2
    have hraw := (hr r (List.mem_of_getElem? hk2)).calm hc
    rw [Addr.add_lit] at d1 d2
    refine ⟨r.A, r.c, by simpa using d1, by simpa [Nat.add_assoc] using d2, hraw.fits, hraw.cap, hraw.reads⟩

/-- A slice of patterns whose parts lie in memory that was there in w0, its row there too or a row of patterns. -/
def PatsO (w0 w : World) (A : Option Addr) (ps : List Pat) : Prop := ps.length ≤ 16384 ∧ ∃ rs : List RawP, rs.map (·.p) = ps ∧ (∀ r ∈ rs, Raw w0 r) ∧
  (0 < ps.length → ∃ b o, A = some ⟨b, o, none⟩ ∧ b < w.heap.size ∧ (b < w0.heap.size ∨ ∃ cs, w.heap[b]? = some (.cells cs 36 (0, 0))) ∧
    ∀ (k : Nat) (r : RawP), rs[k]? = some r → w.cell? ⟨b, o + k * 2, none⟩ = some (.slice r.A r.p.parts.length r.c) ∧ w.cell? ⟨b, o + k * 2 + 1, none⟩ = some (.bool r.p.rest))
theorem PatsO.keep {w0 w w' : World} {A : Option Addr} {ps : List Pat} (h : PatsO w0 w A ps) (hs : w.heap.size ≤ w'.heap.size) (hk : ∀ b, b < w.heap.size → (b < w0.heap.size ∨ ∃ cs, w.heap[b]? = some (.cells cs 36 (0, 0))) → w'.heap[b]? = w.heap[b]?) : PatsO w0 w' A ps := by
  obtain ⟨h1, rs, h2, h3, h4⟩ := h
  refine ⟨h1, rs, h2, h3, fun h0 => ?_⟩
  obtain ⟨b, o, hA, hb, hor, hc⟩ := h4 h0
  have e := hk b hb hor
  refine ⟨b, o, hA, by omega, by rw [e]; exact hor, fun k r hr => ?_⟩
  obtain ⟨g1, g2⟩ := hc k r hr
  exact ⟨(World.cell?_of_block (a := ⟨b, o + k * 2, none⟩) e).trans g1, (World.cell?_of_block (a := ⟨b, o + k * 2 + 1, none⟩) e).trans g2⟩
theorem PatsO.calm {w0 w w' : World} {A : Option Addr} {ps : List Pat} (h : PatsO w0 w A ps) (hc : Calm w w') : PatsO w0 w' A ps := h.keep hc.size fun b hb _ => hc.block b hb
theorem PatsO.get {w0 w : World} {A : Option Addr} {ps : List Pat} (h : PatsO w0 w A ps) {k : Nat} (hk : k < ps.length) : ∃ b o p Ak ck, A = some ⟨b, o, none⟩ ∧ b < w.heap.size ∧ ps[k]? = some p ∧ w.cell? ⟨b, o + k * 2, none⟩ = some (.slice Ak p.parts.length ck) ∧ w.cell? ⟨b, o + k * 2 + 1, none⟩ = some (.bool p.rest) ∧ Raw w0 ⟨Ak, ck, p⟩ := by
  obtain ⟨h1, rs, h2, h3, h4⟩ := h
  obtain ⟨b, o, hA, hb, _, hc⟩ := h4 (by omega)
  have hkr : k < rs.length := by rw [← h2, List.length_map] at hk; exact hk
  have hr := List.getElem?_eq_getElem hkr
  obtain ⟨g1, g2⟩ := hc k _ hr
  exact ⟨b, o, rs[k].p, rs[k].A, rs[k].c, hA, hb, by rw [← h2, List.getElem?_map, hr]; rfl, g1, g2, h3 _ (List.getElem_mem hkr)⟩
theorem PatsO.reads {w0 w : World} {A : Option Addr} {ps : List Pat} (h : PatsO w0 w A ps) (hc : Calm w0 w) : PatsR w A ps := by
  obtain ⟨h1, rs, h2, h3, h4⟩ := h
  refine ⟨h1, fun h0 => ?_⟩
  obtain ⟨b, o, hA, hb, _, hcell⟩ := h4 h0
  refine ⟨b, o, hA, hb, fun k p hp => ?_⟩
  rw [← h2, List.getElem?_map] at hp
  obtain ⟨r, hr, rfl⟩ := Option.map_eq_some_iff.1 hp
  obtain ⟨g1, g2⟩ := hcell k r hr
  have hraw := (h3 r (List.mem_of_getElem? hr)).calm hc
  exact ⟨r.A, r.c, g1, g2, hraw.fits, hraw.cap, hraw.reads⟩
theorem PatsO.of {w : World} {A : Option Addr} {ps : List Pat} (h : PatsR w A ps) : PatsO w w A ps := by
  rcases Nat.eq_zero_or_pos ps.length with h0 | h0
  · have : ps = [] := List.eq_nil_of_length_eq_zero h0
    subst this
    exact ⟨h.len, [], rfl, (fun r hr => by cases hr), fun h => absurd h (Nat.lt_irrefl _)⟩
  · obtain ⟨b, o, hA, hb, hc⟩ := h.at_ h0
    have hex : ∀ k : Fin ps.length, ∃ r : RawP, r.p = ps[k] ∧ Raw w r ∧ w.cell? ⟨b, o + k.val * 2, none⟩ = some (.slice r.A r.p.parts.length r.c) ∧ w.cell? ⟨b, o + k.val * 2 + 1, none⟩ = some (.bool r.p.rest) := fun k => by
      obtain ⟨Ak, ck, g1, g2, g3, g4, g5⟩ := hc k.val _ (List.getElem?_eq_getElem k.isLt)
      exact ⟨⟨Ak, ck, ps[k]⟩, rfl, ⟨g5, g3, g4⟩, g1, g2⟩
    let f : Fin ps.length → RawP := fun k => Classical.choose (hex k)
    have hf : ∀ k, (f k).p = ps[k] ∧ Raw w (f k) ∧ w.cell? ⟨b, o + k.val * 2, none⟩ = some (.slice (f k).A (f k).p.parts.length (f k).c) ∧ w.cell? ⟨b, o + k.val * 2 + 1, none⟩ = some (.bool (f k).p.rest) := fun k => Classical.choose_spec (hex k)
    refine ⟨h.len, List.ofFn f, ?_, fun r hr => ?_, fun _ => ⟨b, o, hA, hb, .inl hb, fun k r hr => ?_⟩⟩
    · apply List.ext_getElem
      · simp
      · intro j h1 h2
        simp only [List.getElem_map, List.getElem_ofFn]
        exact (hf ⟨j, h2⟩).1
    · obtain ⟨k, rfl⟩ := List.mem_ofFn.1 hr
      exact (hf k).2.1
    · obtain ⟨hlt, he⟩ := List.getElem?_eq_some_iff.1 hr
      simp only [List.getElem_ofFn] at he
      have hlt2 : k < ps.length := by simpa using hlt
      rw [← he]
      exact ⟨(hf ⟨k, hlt2⟩).2.2.1, (hf ⟨k, hlt2⟩).2.2.2⟩
theorem owns_patsO {w0 w1 w : World} {v : Value} {rs : List RawP} (h : w.ownsRow w1.heap.size 36 2 v rs.length (rawCells rs)) (hr : ∀ r ∈ rs, Raw w0 r) (hl : rs.length ≤ 16384) :
    ∃ A c, v = .slice A rs.length c ∧ PatsO w0 w A (rs.map (·.p)) := by
  rcases h.2 with ⟨rfl, h0⟩ | ⟨g, cap, cur, rfl, hg, hh, hcap, hm, hs, ht⟩
  · exact ⟨none, 0, by rw [h0], by rw [List.length_map]; exact hl, rs, rfl, hr, fun h => by rw [List.length_map, h0] at h; omega⟩
  · have hlt : g < w.heap.size := by
      rcases Nat.lt_or_ge g w.heap.size with h | h
      · exact h
      · rw [Array.getElem?_eq_none h] at hh; cases hh
    refine ⟨_, cap, rfl, by rw [List.length_map]; exact hl, rs, rfl, hr, fun _ => ⟨g, 0, rfl, hlt, .inr ⟨cur, hh⟩, fun k r hk => ?_⟩⟩
    obtain ⟨h1, h2⟩ := rawCells_at rs k r hk
    have hcell := h.cells (g := g) rfl
    have d1 := hcell _ _ h1
    have d2 := hcell _ _ h2
    rw [Addr.add_lit] at d1 d2
    exact ⟨by simpa using d1, by simpa [Nat.add_assoc] using d2⟩
/-- An append to a row of strings of the call's own leaves such a slice as it was. -/
theorem PatsO.grown {w0 w w' : World} {A : Option Addr} {ps : List Pat} {v : Value} {n : Nat} {xs : List Value} {B : Nat} (h : PatsO w0 w A ps) (hB : w0.heap.size ≤ B) (hown : w.ownsRow B 9 1 v n xs) (hg : w.grownBy w' v.ownBlock) : PatsO w0 w' A ps := by
  refine h.keep hg.size fun b hb hor => hg.block b hb fun e => ?_
  rcases hown.2 with ⟨rfl, _⟩ | ⟨g, cap, cur, rfl, hgB, hh, _⟩
  · simp [Value.ownBlock] at e
  · have e2 : b = g := by simpa [Value.ownBlock] using e
    subst e2
    rcases hor with h1 | ⟨cs, h1⟩
    · omega
    · rw [hh] at h1
      injection h1 with h1
      injection h1 with _ ht
      exact absurd ht (by decide)

def strCells (ls : List Str) : List Value := ls.map fun l => .string (bs l)
theorem owns_strs {w : World} {base : Nat} {v : Value} {ls : List Str} (h : w.ownsRow base 9 1 v ls.length (strCells ls)) :
    ∃ A c, v = .slice A ls.length c ∧ ls.length ≤ c ∧ (0 < ls.length → ∃ g, A = some ⟨g, 0, none⟩ ∧ base ≤ g ∧ g < w.heap.size ∧ ∀ (j : Nat) (l : Str), ls[j]? = some l → w.cell? ⟨g, j, none⟩ = some (.string (bs l))) := by
  rcases h.2 with ⟨rfl, h0⟩ | ⟨g, cap, cur, rfl, hg, hh, hcap, hm, hs, ht⟩
  · exact ⟨none, 0, by rw [h0], by omega, fun h => by omega⟩
  · have hlt : g < w.heap.size := by
      rcases Nat.lt_or_ge g w.heap.size with h | h
      · exact h
      · rw [Array.getElem?_eq_none h] at hh; cases hh
    refine ⟨_, cap, rfl, hcap, fun _ => ⟨g, rfl, hg, hlt, fun j l hl => ?_⟩⟩
    have := h.cells (g := g) rfl j (.string (bs l)) (by simp [strCells, hl])
    rw [Addr.add_lit] at this
    simpa using this
end Go.Proofs.YtglnkpgfdjnhnaaGreatDoor
set_option linter.unusedVariables false
set_option linter.unusedSimpArgs false
namespace Go.Proofs.YtglnkpgfdjnhnaaGreatDoor
open Go Go.RowKit Sy

theorem info_strE : (Tryz.prog.info? 9).map (fun i => (i.zero, i.size, i.bytes)) = some (some (.string ByteArray.empty), 1, 16) := by kernel_rfl

/-- Since w0 only new blocks, among them v's row, which holds ls. -/
structure OwnS (w0 w : World) (v : Value) (ls : List Str) : Prop where
  calm : Calm w0 w
  own : w.ownsRow w0.heap.size 9 1 v ls.length (strCells ls)

theorem OwnS.nil {w0 w : World} (h : Calm w0 w) : OwnS w0 w (.slice none 0 0) [] := ⟨h, World.ownsRow_nil _ _ _ _⟩
theorem OwnS.to {w0 w w' : World} {v : Value} {ls : List Str} (h : OwnS w0 w v ls) (hc : Calm w w') : OwnS w0 w' v ls := ⟨h.calm.trans hc, owns_calm h.own hc⟩
theorem OwnS.strs {w0 w : World} {v : Value} {ls : List Str} (h : OwnS w0 w v ls) (h1 : ls.length ≤ 16384) (h2 : ∀ l ∈ ls, l.length ≤ 16384) : ∃ A c, v = .slice A ls.length c ∧ ls.length ≤ c ∧ StrsR w A ls := by
  obtain ⟨A, c, hv, hc, hat⟩ := owns_strs h.own
  refine ⟨A, c, hv, hc, h1, h2, fun h0 => ?_⟩
  obtain ⟨g, rfl, _, hg, hcells⟩ := hat h0
  exact ⟨g, 0, rfl, hg, fun k l hl => by rw [Nat.zero_add]; exact hcells k l hl⟩
/-- The block of such a row is none of those that were there in w0. -/
theorem OwnS.far {w0 w : World} {v : Value} {ls : List Str} (h : OwnS w0 w v ls) {b : Nat} (hb : b < w0.heap.size) : some b ≠ v.ownBlock := fun e => by
  have := (owns_lt h.own e.symm).1
  omega

theorem new_str (v : World) {n : Nat} {l : Str} (h : v.heap.size = n) : (v.alloc (.cells #[.string (bs l)] 9)).cell? ⟨n, 0, none⟩ = some (.string (bs l)) := by
  subst h
  rw [cell_of_row _ v.heap.size 0 _ _ _ (heap_alloc_new v _)]
  rfl
theorem wpList_append_str {ops : Array Oper} {rest : List Oper} {o : Oper} {a : Act} {Q : Exit → Act → World → Prop} {w : World} (hgd : o.guard = none) (s x : Operand)
    (ho : o.op = .call { callee := .builtin .append, args := #[s, x], argTypes := #[34, 34] }) (w0 : World) (v : Value) (ls : List Str) (hs : a.eval s = v) (hown : OwnS w0 w v ls)
    (b off c : Nat) (hx : a.eval x = .slice (some ⟨b, off, none⟩) 1 c) (l : Str) (hcell : w.cell? ⟨b, off, none⟩ = some (.string (bs l))) (hlen : ls.length ≤ 1000000)
    (h : ∀ v' w', OwnS w0 w' v' (ls ++ [l]) → w.grownBy w' v.ownBlock → wpList Tryz.prog ops Q rest (a.put o.dst v') w') : wpList Tryz.prog ops Q (o :: rest) a w := by
  obtain ⟨i0, hi0, hz0, hz1, hz2⟩ := info_parts info_strE
  refine wpList_append_own w hgd s x 34 ho w0.heap.size 9 i0 _ 1 16 Tryz.underlying34 hi0 hz0 hz1 hz2 rfl (by decide) v ls.length (strCells ls) hs hown.own ⟨b, off, none⟩ 1 c [.string (bs l)] hx rfl (fun j u hj => ?_) (by simp [Value.oneCell']) (by unfold maxLen; omega) (by omega) hown.calm.size ?_
  · cases j with
    | zero =>
      simp only [List.getElem?_cons_zero, Option.some.injEq] at hj
      subst hj
      simpa [Addr.add_lit] using hcell
    | succ j => simp at hj
  · intro v' w' ho' hg _
    refine h v' w' ⟨Below.trans hown.calm (owns_below hown.own hown.calm.size hg), ?_⟩ hg
    rw [List.length_append]
    simpa [strCells] using ho'

/-- internal/bytealg.MaxLen holds a number. -/
structure MaxL (w : World) : Prop where
  lt : 0 < w.heap.size
  at_ : ∃ m : Int, w.cell? ⟨0, 0, none⟩ = some (.int .i64 m)
theorem MaxL.calm {w w' : World} (h : MaxL w) (hc : Calm w w') : MaxL w' :=
  ⟨Nat.lt_of_lt_of_le h.lt hc.size, by
    obtain ⟨m, hm⟩ := h.at_
    exact ⟨m, hc.at_ hm h.lt⟩⟩

def sep47 : ByteArray := ⟨#[47]⟩
theorem split_bs (s : Str) : Lib.splitB sep47 0 (Lib.countB (bs s) sep47) (bs s) = (slash s).map bs := by
  have h := Lib.splitB_data sep47 0 (Lib.countB (bs s) sep47) (bs s)
  have hc : Lib.countB (bs s) sep47 = Lib.count s [47] := by
    show Lib.count (bs s).data.toList sep47.data.toList = _
    rw [bs_toList]
    rfl
  rw [bs_toList, hc] at h
  have hs : sep47.data.toList = [47] := rfl
  rw [hs, splitK_slash] at h
  rw [hc, ← h, List.map_map]
  have : (bs ∘ fun x : ByteArray => x.data.toList) = id := by funext x; exact bs_eta x
  rw [this, List.map_id]
theorem split_n (s : Str) : Lib.countB (bs s) sep47 + 1 = (slash s).length := by
  have h := Lib.splitB_all sep47 (by decide) 0 _ (bs s) rfl
  rw [split_bs, List.length_map] at h
  exact h.symm

theorem split_c (s : Str) (w : World) (hs : s.length ≤ 4000000) (hM : MaxL w) :
    Calls Tryz.prog 85 #[.string (bs s), .string ⟨#[47]⟩] w fun e w' => e = .returned (.slice (some ⟨w.heap.size, 0, none⟩) (slash s).length (slash s).length) ∧ Calm w w' ∧ StrsG w' (some ⟨w.heap.size, 0, none⟩) (slash s) := by
  obtain ⟨m, hm⟩ := hM.at_
  refine (Tryz.strings_Split (bs s) sep47 m w (by rw [bs_size]; omega) hm (by decide)).mono fun e w' ⟨he, hw⟩ => ?_
  rw [split_bs] at hw
  rw [split_n] at he
  have hl := slash_len s
  have he' := slash_each s
  refine ⟨he, hw ▸ (Calm.refl w).alloc _, by omega, fun l hl => by have := he' l hl; omega, fun _ => ⟨w.heap.size, 0, rfl, by rw [hw]; simp, fun k l hk => ?_⟩⟩
  rw [hw, Nat.zero_add, cell_of_row _ w.heap.size k _ _ _ (heap_alloc_new w _)]
  simp [hk]
theorem StrsG.of_le {w : World} {A : Option Addr} {ls : List Str} (h : StrsG w A ls) {s : Str} (hs : ls = slash s) (hl : s.length ≤ 16000) : StrsR w A ls := by
  subst hs
  have h1 := slash_len s
  exact h.toR (by omega) (fun l hm => by have := slash_each s l hm; omega)
theorem bs_append (a b : Str) : bs (a ++ b) = bs a ++ bs b := by
  apply ByteArray.ext
  apply Array.ext'
  simp [bs]
theorem join_len {K : Nat} (sep : Str) : ∀ ls : List Str, (∀ l ∈ ls, l.length ≤ K) → (Lib.join ls sep).length ≤ ls.length * (K + sep.length)
  | [], _ => by simp [Lib.join]
  | [a], h => by
    have := h a (by simp)
    simp [Lib.join]
    omega
  | a :: c :: t, h => by
    have ih := join_len sep (c :: t) (fun l hl => h l (by simp [hl]))
    have h1 := h a (by simp)
    have e : Lib.join (a :: c :: t) sep = a ++ (sep ++ Lib.join (c :: t) sep) := by simp [Lib.join, List.intercalate]
    rw [e, List.length_append, List.length_append]
    have h2 : (a :: c :: t).length * (K + sep.length) = (c :: t).length * (K + sep.length) + (K + sep.length) := by simp [Nat.add_mul]
    rw [h2]
    omega
theorem join47_len {ls : List Str} (hl : ls.length ≤ 20000) (hK : ∀ l ∈ ls, l.length ≤ 20000) : (Lib.join ls [47]).length ≤ 400020000 := by
  have h1 := join_len [47] ls hK
  have h2 : ls.length * (20000 + [47].length) ≤ 20000 * 20001 := Nat.mul_le_mul hl (Nat.le_refl _)
  exact Nat.le_trans h1 (Nat.le_trans h2 (by decide))
theorem join47_c (ls : List Str) (Bk c : Nat) (w : World) (hcells : ∀ (j : Nat) (l : Str), ls[j]? = some l → w.cell? ⟨Bk, j, none⟩ = some (.string (bs l))) (hB : Bk < w.heap.size) (hcap : ls.length ≤ c) (hl : ls.length ≤ 20000) (hK : ∀ l ∈ ls, l.length ≤ 20000) :
    Calls Tryz.prog 63 #[.slice (some ⟨Bk, 0, none⟩) ls.length c, .string ⟨#[47]⟩] w fun e w' => e = .returned (.string (bs (Lib.join ls [47]))) ∧ Calm w w' := by
  have hm : (ls.map bs).map (·.data.toList) = ls := by
    rw [List.map_map]
    have : ((fun s : ByteArray => s.data.toList) ∘ bs) = id := by funext l; exact bs_toList l
    rw [this, List.map_id]
  have h := Tryz.strings_Join Bk 0 c (ls.map bs) ⟨#[47]⟩ w (fun j x hx => by
      rw [List.getElem?_map] at hx
      obtain ⟨l, h1, rfl⟩ := Option.map_eq_some_iff.1 hx
      rw [Nat.zero_add]
      exact hcells j l h1) hB (by rw [List.length_map]; omega) (by rw [List.length_map]; exact hcap) (by
      rw [hm]
      have h1 := join_len [47] ls hK
      have h2 : ls.length * (20000 + [47].length) ≤ 20000 * 20001 := Nat.mul_le_mul hl (Nat.le_refl _)
      exact Nat.le_trans h1 (Nat.le_trans h2 (by decide)))
  rw [hm, List.length_map] at h
  exact h

theorem join_off_c (ls : List Str) (Bk off c : Nat) (w : World) (hcells : ∀ (j : Nat) (l : Str), ls[j]? = some l → w.cell? ⟨Bk, off + j, none⟩ = some (.string (bs l))) (hB : Bk < w.heap.size) (hcap : ls.length ≤ c) (hl : ls.length ≤ 20000) (hK : ∀ l ∈ ls, l.length ≤ 20000) :
    Calls Tryz.prog 63 #[.slice (some ⟨Bk, off, none⟩) ls.length c, .string ⟨#[47]⟩] w fun e w' => e = .returned (.string (bs (Lib.join ls [47]))) ∧ Calm w w' := by
  have hm : (ls.map bs).map (·.data.toList) = ls := by
    rw [List.map_map]
    have : ((fun s : ByteArray => s.data.toList) ∘ bs) = id := by funext l; exact bs_toList l
    rw [this, List.map_id]
  have h := Tryz.strings_Join Bk off c (ls.map bs) ⟨#[47]⟩ w (fun j x hx => by
      rw [List.getElem?_map] at hx
      obtain ⟨l, h1, rfl⟩ := Option.map_eq_some_iff.1 hx
      exact hcells j l h1) hB (by rw [List.length_map]; omega) (by rw [List.length_map]; exact hcap) (by
      rw [hm]
      have h1 := join_len [47] ls hK
      have h2 : ls.length * (20000 + [47].length) ≤ 20000 * 20001 := Nat.mul_le_mul hl (Nat.le_refl _)
      exact Nat.le_trans h1 (Nat.le_trans h2 (by decide)))
  rw [hm, List.length_map] at h
  exact h

end Go.Proofs.YtglnkpgfdjnhnaaGreatDoor
