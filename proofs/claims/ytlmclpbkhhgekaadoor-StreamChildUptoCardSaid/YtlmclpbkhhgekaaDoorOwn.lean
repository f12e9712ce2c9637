/- Slices that a call itself made by append: of patterns, of strings. -/
import Derived.Test.YtlmclpbkhhgekaaDoorCalm
import Derived.OwnWalk
import Derived.Laws.AppendOwn
import Derived.Deep.AppendLies
set_option linter.unusedVariables false
set_option linter.unusedSimpArgs false
namespace Go.Proofs.YtlmclpbkhhgekaaDoor
open Go Go.RowKit Sy

/-- A pattern as it lies in a slice's row: where its parts lie, how many there is room for, what they are. -/
structure RawP where
  A : Option Addr
  c : Nat
  p : Pat
def RawP.cells (r : RawP) : List Value := [.slice r.A r.p.parts.length r.c, .bool r.p.rest]
def rawCells (rs : List RawP) : List Value := rs.flatMap RawP.cells
structure Raw (w : World) (r : RawP) : Prop where
  reads : StrsR w r.A r.p.parts
  fits : r.p.parts.length ≤ r.c
  cap : r.c ≤ 9223372036854775807
theorem Raw.calm {w w' : World} {r : RawP} (h : Raw w r) (hc : Calm w w') : Raw w' r := ⟨h.reads.calm hc, h.fits, h.cap⟩
theorem rawCells_snoc (rs : List RawP) (r : RawP) : rawCells (rs ++ [r]) = rawCells rs ++ [.slice r.A r.p.parts.length r.c, .bool r.p.rest] := by
  simp [rawCells, RawP.cells]
theorem rawCells_length (rs : List RawP) : (rawCells rs).length = rs.length * 2 := by
  induction rs with
  | nil => rfl
  | cons r rs ih =>
    simp only [rawCells, List.flatMap_cons, List.length_append, List.length_cons] at ih ⊢
    rw [ih]
    simp [RawP.cells]
    omega
theorem rawCells_at : ∀ (rs : List RawP) (k : Nat) (r : RawP), rs[k]? = some r → (rawCells rs)[k * 2]? = some (.slice r.A r.p.parts.length r.c) ∧ (rawCells rs)[k * 2 + 1]? = some (.bool r.p.rest)
  | [], k, r, h => by simp at h
  | a :: rs, 0, r, h => by
    simp only [List.getElem?_cons_zero, Option.some.injEq] at h
    subst h
    simp [rawCells, RawP.cells]
  | a :: rs, k + 1, r, h => by
    simp only [List.getElem?_cons_succ] at h
    have ih := rawCells_at rs k r h
    have e1 : (k + 1) * 2 = k * 2 + 2 := by omega
    have e2 : rawCells (a :: rs) = .slice a.A a.p.parts.length a.c :: .bool a.p.rest :: rawCells rs := rfl
    rw [e1, e2]
    exact ih

/-- What is owned stays so where only new blocks come. -/
theorem owns_calm {w w' : World} {base : Nat} {e : TypeId} {size n : Nat} {v : Value} {xs : List Value} (h : w.ownsRow base e size v n xs) (hc : Calm w w') : w'.ownsRow base e size v n xs := by
  obtain ⟨h1, h2⟩ := h
  refine ⟨h1, ?_⟩
  rcases h2 with h2 | ⟨g, cap, cur, hv, hg, hh, r⟩
  · exact .inl h2
  · have hlt : g < w.heap.size := by
      rcases Nat.lt_or_ge g w.heap.size with h | h
      · exact h
      · rw [Array.getElem?_eq_none h] at hh; cases hh
    exact .inr ⟨g, cap, cur, hv, hg, (hc.block g hlt).trans hh, r⟩
theorem owns_lt {w : World} {base : Nat} {e : TypeId} {size n : Nat} {v : Value} {xs : List Value} (h : w.ownsRow base e size v n xs) {k : Nat} (hk : v.ownBlock = some k) : base ≤ k ∧ k < w.heap.size := by
  rcases h.2 with ⟨rfl, _⟩ | ⟨g, cap, cur, rfl, hg, hh, _⟩
  · simp [Value.ownBlock] at hk
  · have hlt : g < w.heap.size := by
      rcases Nat.lt_or_ge g w.heap.size with h | h
      · exact h
      · rw [Array.getElem?_eq_none h] at hh; cases hh
    simp [Value.ownBlock] at hk
    subst hk
    exact ⟨hg, hlt⟩
/-- Behind an append onto a row of the call's own. -/
theorem owns_below {w w' : World} {B : Nat} {e : TypeId} {size n : Nat} {v : Value} {xs : List Value} (h : w.ownsRow B e size v n xs) (hB : B ≤ w.heap.size) (hg : w.grownBy w' v.ownBlock) : Below B w w' :=
  (Below.refl B w).grown hg hB (fun k hk => (owns_lt h hk).1)

theorem owns_pats {w1 w : World} {v : Value} {rs : List RawP} (h : w.ownsRow w1.heap.size 33 2 v rs.length (rawCells rs)) (hc : Calm w1 w) (hr : ∀ r ∈ rs, Raw w1 r) (hl : rs.length ≤ 16384) :
    ∃ A c, v = .slice A rs.length c ∧ PatsR w A (rs.map (·.p)) := by
  rcases h.2 with ⟨rfl, h0⟩ | ⟨g, cap, cur, rfl, hg, hh, hcap, hm, hs, ht⟩
  · exact ⟨none, 0, by rw [h0], by rw [List.length_map]; exact hl, fun h => by rw [List.length_map, h0] at h; omega⟩
  · have hlt : g < w.heap.size := by
      rcases Nat.lt_or_ge g w.heap.size with h | h
      · exact h
      · rw [Array.getElem?_eq_none h] at hh; cases hh
    refine ⟨_, cap, rfl, by rw [List.length_map]; exact hl, fun _ => ⟨g, 0, rfl, hlt, fun k p hk => ?_⟩⟩
    rw [List.getElem?_map] at hk
    obtain ⟨r, hk2, rfl⟩ := Option.map_eq_some_iff.1 hk
    obtain ⟨h1, h2⟩ := rawCells_at rs k r hk2
    have hcell := h.cells (g := g) rfl
    have d1 := hcell _ _ h1
    have d2 := hcell _ _ h2
    have hraw := (hr r (List.mem_of_getElem? hk2)).calm hc
    rw [Addr.add_lit] at d1 d2
    refine ⟨r.A, r.c, by simpa using d1, by simpa [Nat.add_assoc] using d2, hraw.fits, hraw.cap, hraw.reads⟩

/-- A slice of patterns whose parts lie in memory that was there in w0, its row there too or a row of patterns. -/
def PatsO (w0 w : World) (A : Option Addr) (ps : List Pat) : Prop := ps.length ≤ 16384 ∧ ∃ rs : List RawP, rs.map (·.p) = ps ∧ (∀ r ∈ rs, Raw w0 r) ∧
  (0 < ps.length → ∃ b o, A = some ⟨b, o, none⟩ ∧ b < w.heap.size ∧ (b < w0.heap.size ∨ ∃ cs, w.heap[b]? = some (.cells cs 33 (0, 0))) ∧
    ∀ (k : Nat) (r : RawP), rs[k]? = some r → w.cell? ⟨b, o + k * 2, none⟩ = some (.slice r.A r.p.parts.length r.c) ∧ w.cell? ⟨b, o + k * 2 + 1, none⟩ = some (.bool r.p.rest))
theorem PatsO.keep {w0 w w' : World} {A : Option Addr} {ps : List Pat} (h : PatsO w0 w A ps) (hs : w.heap.size ≤ w'.heap.size) (hk : ∀ b, b < w.heap.size → (b < w0.heap.size ∨ ∃ cs, w.heap[b]? = some (.cells cs 33 (0, 0))) → w'.heap[b]? = w.heap[b]?) : PatsO w0 w' A ps := by
  obtain ⟨h1, rs, h2, h3, h4⟩ := h
  refine ⟨h1, rs, h2, h3, fun h0 => ?_⟩
  obtain ⟨b, o, hA, hb, hor, hc⟩ := h4 h0
  have e := hk b hb hor
  refine ⟨b, o, hA, by omega, by rw [e]; exact hor, fun k r hr => ?_⟩
  obtain ⟨g1, g2⟩ := hc k r hr
  exact ⟨(World.cell?_of_block (a := ⟨b, o + k * 2, none⟩) e).trans g1, (World.cell?_of_block (a := ⟨b, o + k * 2 + 1, none⟩) e).trans g2⟩
theorem PatsO.calm {w0 w w' : World} {A : Option Addr} {ps : List Pat} (h : PatsO w0 w A ps) (hc : Calm w w') : PatsO w0 w' A ps := h.keep hc.size fun b hb _ => hc.block b hb
theorem PatsO.get {w0 w : World} {A : Option Addr} {ps : List Pat} (h : PatsO w0 w A ps) {k : Nat} (hk : k < ps.length) : ∃ b o p Ak ck, A = some ⟨b, o, none⟩ ∧ b < w.heap.size ∧ ps[k]? = some p ∧ w.cell? ⟨b, o + k * 2, none⟩ = some (.slice Ak p.parts.length ck) ∧ w.cell? ⟨b, o + k * 2 + 1, none⟩ = some (.bool p.rest) ∧ Raw w0 ⟨Ak, ck, p⟩ := by
  obtain ⟨h1, rs, h2, h3, h4⟩ := h
  obtain ⟨b, o, hA, hb, _, hc⟩ := h4 (by omega)
  have hkr : k < rs.length := by rw [← h2, List.length_map] at hk; exact hk
  have hr := List.getElem?_eq_getElem hkr
  obtain ⟨g1, g2⟩ := hc k _ hr
  exact ⟨b, o, rs[k].p, rs[k].A, rs[k].c, hA, hb, by rw [← h2, List.getElem?_map, hr]; rfl, g1, g2, h3 _ (List.getElem_mem hkr)⟩
theorem PatsO.reads {w0 w : World} {A : Option Addr} {ps : List Pat} (h : PatsO w0 w A ps) (hc : Calm w0 w) : PatsR w A ps := by
  obtain ⟨h1, rs, h2, h3, h4⟩ := h
  refine ⟨h1, fun h0 => ?_⟩
  obtain ⟨b, o, hA, hb, _, hcell⟩ := h4 h0
  refine ⟨b, o, hA, hb, fun k p hp => ?_⟩
  rw [← h2, List.getElem?_map] at hp
  obtain ⟨r, hr, rfl⟩ := Option.map_eq_some_iff.1 hp
  obtain ⟨g1, g2⟩ := hcell k r hr
  have hraw := (h3 r (List.mem_of_getElem? hr)).calm hc
  exact ⟨r.A, r.c, g1, g2, hraw.fits, hraw.cap, hraw.reads⟩
theorem PatsO.of {w : World} {A : Option Addr} {ps : List Pat} (h : PatsR w A ps) : PatsO w w A ps := by
  rcases Nat.eq_zero_or_pos ps.length with h0 | h0
  · have : ps = [] := List.eq_nil_of_length_eq_zero h0
    subst this
    exact ⟨h.len, [], rfl, (fun r hr => by cases hr), fun h => absurd h (Nat.lt_irrefl _)⟩
  · obtain ⟨b, o, hA, hb, hc⟩ := h.at_ h0
    have hex : ∀ k : Fin ps.length, ∃ r : RawP, r.p = ps[k] ∧ Raw w r ∧ w.cell? ⟨b, o + k.val * 2, none⟩ = some (.slice r.A r.p.parts.length r.c) ∧ w.cell? ⟨b, o + k.val * 2 + 1, none⟩ = some (.bool r.p.rest) := fun k => by
      obtain ⟨Ak, ck, g1, g2, g3, g4, g5⟩ := hc k.val _ (List.getElem?_eq_getElem k.isLt)
      exact ⟨⟨Ak, ck, ps[k]⟩, rfl, ⟨g5, g3, g4⟩, g1, g2⟩
    let f : Fin ps.length → RawP := fun k => Classical.choose (hex k)
    have hf : ∀ k, (f k).p = ps[k] ∧ Raw w (f k) ∧ w.cell? ⟨b, o + k.val * 2, none⟩ = some (.slice (f k).A (f k).p.parts.length (f k).c) ∧ w.cell? ⟨b, o + k.val * 2 + 1, none⟩ = some (.bool (f k).p.rest) := fun k => Classical.choose_spec (hex k)
    refine ⟨h.len, List.ofFn f, ?_, fun r hr => ?_, fun _ => ⟨b, o, hA, hb, .inl hb, fun k r hr => ?_⟩⟩
    · apply List.ext_getElem
      · simp
      · intro j h1 h2
        simp only [List.getElem_map, List.getElem_ofFn]
        exact (hf ⟨j, h2⟩).1
    · obtain ⟨k, rfl⟩ := List.mem_ofFn.1 hr
      exact (hf k).2.1
    · obtain ⟨hlt, he⟩ := List.getElem?_eq_some_iff.1 hr
      simp only [List.getElem_ofFn] at he
      have hlt2 : k < ps.length := by simpa using hlt
      rw [← he]
      exact ⟨(hf ⟨k, hlt2⟩).2.2.1, (hf ⟨k, hlt2⟩).2.2.2⟩
theorem owns_patsO {w0 w1 w : World} {v : Value} {rs : List RawP} (h : w.ownsRow w1.heap.size 33 2 v rs.length (rawCells rs)) (hr : ∀ r ∈ rs, Raw w0 r) (hl : rs.length ≤ 16384) :
    ∃ A c, v = .slice A rs.length c ∧ PatsO w0 w A (rs.map (·.p)) := by
  rcases h.2 with ⟨rfl, h0⟩ | ⟨g, cap, cur, rfl, hg, hh, hcap, hm, hs, ht⟩
  · exact ⟨none, 0, by rw [h0], by rw [List.length_map]; exact hl, rs, rfl, hr, fun h => by rw [List.length_map, h0] at h; omega⟩
  · have hlt : g < w.heap.size := by
      rcases Nat.lt_or_ge g w.heap.size with h | h
      · exact h
      · rw [Array.getElem?_eq_none h] at hh; cases hh
    refine ⟨_, cap, rfl, by rw [List.length_map]; exact hl, rs, rfl, hr, fun _ => ⟨g, 0, rfl, hlt, .inr ⟨cur, hh⟩, fun k r hk => ?_⟩⟩
    obtain ⟨h1, h2⟩ := rawCells_at rs k r hk
    have hcell := h.cells (g := g) rfl
    have d1 := hcell _ _ h1
    have d2 := hcell _ _ h2
    rw [Addr.add_lit] at d1 d2
    exact ⟨by simpa using d1, by simpa [Nat.add_assoc] using d2⟩
/-- An append to a row of strings of the call's own leaves such a slice as it was. -/
theorem PatsO.grown {w0 w w' : World} {A : Option Addr} {ps : List Pat} {v : Value} {n : Nat} {xs : List Value} {B : Nat} (h : PatsO w0 w A ps) (hB : w0.heap.size ≤ B) (hown : w.ownsRow B 9 1 v n xs) (hg : w.grownBy w' v.ownBlock) : PatsO w0 w' A ps := by
  refine h.keep hg.size fun b hb hor => hg.block b hb fun e => ?_
  rcases hown.2 with ⟨rfl, _⟩ | ⟨g, cap, cur, rfl, hgB, hh, _⟩
  · simp [Value.ownBlock] at e
  · have e2 : b = g := by simpa [Value.ownBlock] using e
    subst e2
    rcases hor with h1 | ⟨cs, h1⟩
    · omega
    · rw [hh] at h1
      injection h1 with h1
      injection h1 with _ ht
      exact absurd ht (by decide)

def strCells (ls : List Str) : List Value := ls.map fun l => .string (bs l)
theorem owns_strs {w : World} {base : Nat} {v : Value} {ls : List Str} (h : w.ownsRow base 9 1 v ls.length (strCells ls)) :
    ∃ A c, v = .slice A ls.length c ∧ ls.length ≤ c ∧ (0 < ls.length → ∃ g, A = some ⟨g, 0, none⟩ ∧ base ≤ g ∧ g < w.heap.size ∧ ∀ (j : Nat) (l : Str), ls[j]? = some l → w.cell? ⟨g, j, none⟩ = some (.string (bs l))) := by
  rcases h.2 with ⟨rfl, h0⟩ | ⟨g, cap, cur, rfl, hg, hh, hcap, hm, hs, ht⟩
  · exact ⟨none, 0, by rw [h0], by omega, fun h => by omega⟩
  · have hlt : g < w.heap.size := by
      rcases Nat.lt_or_ge g w.heap.size with h | h
      · exact h
      · rw [Array.getElem?_eq_none h] at hh; cases hh
    refine ⟨_, cap, rfl, hcap, fun _ => ⟨g, rfl, hg, hlt, fun j l hl => ?_⟩⟩
    have := h.cells (g := g) rfl j (.string (bs l)) (by simp [strCells, hl])
    rw [Addr.add_lit] at this
    simpa using this
end Go.Proofs.YtlmclpbkhhgekaaDoor
