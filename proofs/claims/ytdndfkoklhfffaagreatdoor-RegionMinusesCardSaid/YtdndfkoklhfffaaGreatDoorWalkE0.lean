/- Walks: Check's contract at a value; a slice of patterns at a place. -/
import Derived.Test.YtdndfkoklhfffaaGreatDoorWalkD
set_option linter.unusedVariables false
set_option linter.unusedSimpArgs false
namespace Go.Proofs.YtdndfkoklhfffaaGreatDoor
open Go Go.RowKit Sy

theorem pcheck_v (p : Pat) (v : Int) (A : Option Addr) (c : Nat) (w : World) (hv : patErr p = v) (hr : StrsR w A p.parts) (hnc : p.parts.length ≤ c) (hc47 : c ≤ 9223372036854775807) : Calls Tryz.prog 31 #[.agg #[.slice A p.parts.length c, .bool p.rest]] w fun e w' => e = .returned (.int .i64 v) ∧ Calm w w' := hv ▸ pcheck_c p A c w hr hnc hc47
theorem rcheck_v (p : Pat) (v : Int) (A : Option Addr) (c : Nat) (w : World) (hv : patErr p = v) (hr : StrsR w A p.parts) (hnc : p.parts.length ≤ c) (hc47 : c ≤ 9223372036854775807) : Calls Tryz.prog 58 #[.agg #[.slice A p.parts.length c, .bool p.rest]] w fun e w' => e = .returned (.int .i64 v) ∧ Calm w w' := hv ▸ rcheck_c p A c w hr hnc hc47

theorem PatsR.get {w : World} {A : Option Addr} {ps : List Pat} (h : PatsR w A ps) {k : Nat} (hk : k < ps.length) : ∃ b o p Ak ck, A = some ⟨b, o, none⟩ ∧ b < w.heap.size ∧ ps[k]? = some p ∧ w.cell? ⟨b, o + k * 2, none⟩ = some (.slice Ak p.parts.length ck) ∧ w.cell? ⟨b, o + k * 2 + 1, none⟩ = some (.bool p.rest) ∧ p.parts.length ≤ ck ∧ ck ≤ 9223372036854775807 ∧ StrsR w Ak p.parts := by
  obtain ⟨b, o, hA, hb, hc⟩ := h.at_ (by omega)
  obtain ⟨Ak, ck, h1, h2, h3, h4, h5⟩ := hc k _ (List.getElem?_eq_getElem hk)
  exact ⟨b, o, ps[k], Ak, ck, hA, hb, List.getElem?_eq_getElem hk, h1, h2, h3, h4, h5⟩

theorem good_holes {hs : List Pat} {k : Nat} {p : Pat} (hk : hs[k]? = some p) (hp : patErr p = 0) (h : ∀ j h, j < k → hs[j]? = some h → patErr h = 0) : ∀ j h, j < k + 1 → hs[j]? = some h → patErr h = 0 := fun j q hj hq => by
  by_cases e : j = k
  · subst e
    rw [hk] at hq
    cases hq
    exact hp
  · exact h j q (by omega) hq

end Go.Proofs.YtdndfkoklhfffaaGreatDoor
