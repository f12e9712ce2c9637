/- How lines and views lie in memory. -/
import Derived.Test.YtlmclpbkhhgekaaDoorRead
import Derived.Test.YtlmclpbkhhgekaaDoorView
set_option linter.unusedVariables false
set_option linter.unusedSimpArgs false
namespace Go.Proofs.YtlmclpbkhhgekaaDoor
open Go.RowKit Sy

/-- Where a line's two sides lie. -/
structure Pl where
  AL : Option Addr
  cl : Nat
  AR : Option Addr
  cr : Nat
deriving Inhabited
def Pl.turn (a : Pl) : Pl := ⟨a.AR, a.cr, a.AL, a.cl⟩
/-- A line as a value. -/
def ruleV (a : Pl) (r : Rule) : Value := .agg #[.bool r.excl, .slice a.AL r.left.parts.length a.cl, .bool r.left.rest, .slice a.AR r.right.parts.length a.cr, .bool r.right.rest]
structure RuleU (w : World) (a : Pl) (r : Rule) : Prop where
  lr : StrsU w a.AL r.left.parts
  rr : StrsU w a.AR r.right.parts
  lroom : r.left.parts.length ≤ a.cl
  rroom : r.right.parts.length ≤ a.cr
  lcap : a.cl ≤ 9223372036854775807
  rcap : a.cr ≤ 9223372036854775807
theorem RuleU.calm {w w' : World} {a : Pl} {r : Rule} (h : RuleU w a r) (hc : Calm w w') : RuleU w' a r := ⟨h.lr.calm hc, h.rr.calm hc, h.lroom, h.rroom, h.lcap, h.rcap⟩
theorem RuleU.turn {w : World} {a : Pl} {r : Rule} (h : RuleU w a r) : RuleU w a.turn r.turn := ⟨h.rr, h.lr, h.rroom, h.lroom, h.rcap, h.lcap⟩
/-- The five cells of a line. -/
structure RuleAt (w : World) (b o : Nat) (a : Pl) (r : Rule) : Prop where
  c0 : w.cell? ⟨b, o, none⟩ = some (.bool r.excl)
  c1 : w.cell? ⟨b, o + 1, none⟩ = some (.slice a.AL r.left.parts.length a.cl)
  c2 : w.cell? ⟨b, o + 2, none⟩ = some (.bool r.left.rest)
  c3 : w.cell? ⟨b, o + 3, none⟩ = some (.slice a.AR r.right.parts.length a.cr)
  c4 : w.cell? ⟨b, o + 4, none⟩ = some (.bool r.right.rest)
theorem RuleAt.calm {w w' : World} {b o : Nat} {a : Pl} {r : Rule} (h : RuleAt w b o a r) (hc : Calm w w') (hb : b < w.heap.size) : RuleAt w' b o a r :=
  ⟨(hc.cell (p := ⟨b, o, none⟩) hb).trans h.c0, (hc.cell (p := ⟨b, o + 1, none⟩) hb).trans h.c1, (hc.cell (p := ⟨b, o + 2, none⟩) hb).trans h.c2, (hc.cell (p := ⟨b, o + 3, none⟩) hb).trans h.c3, (hc.cell (p := ⟨b, o + 4, none⟩) hb).trans h.c4⟩

/-- A slice of lines reads as rs. -/
structure RulesU (w : World) (A : Option Addr) (rs : List Rule) : Prop where
  len : rs.length ≤ 1048577
  at_ : 0 < rs.length → ∃ b o, A = some ⟨b, o, none⟩ ∧ b < w.heap.size ∧ ∀ k r, rs[k]? = some r → ∃ a, RuleAt w b (o + k * 5) a r ∧ RuleU w a r
theorem RulesU.calm {w w' : World} {A : Option Addr} {rs : List Rule} (h : RulesU w A rs) (hc : Calm w w') : RulesU w' A rs :=
  ⟨h.len, fun h0 => by
    obtain ⟨b, o, rfl, hb, hk⟩ := h.at_ h0
    refine ⟨b, o, rfl, Nat.lt_of_lt_of_le hb hc.size, fun k r hr => ?_⟩
    obtain ⟨a, h1, h2⟩ := hk k r hr
    exact ⟨a, h1.calm hc hb, h2.calm hc⟩⟩
theorem RulesU.get {w : World} {A : Option Addr} {rs : List Rule} (h : RulesU w A rs) {k : Nat} (hk : k < rs.length) : ∃ b o r a, A = some ⟨b, o, none⟩ ∧ b < w.heap.size ∧ rs[k]? = some r ∧ RuleAt w b (o + k * 5) a r ∧ RuleU w a r := by
  obtain ⟨b, o, hA, hb, hc⟩ := h.at_ (by omega)
  obtain ⟨a, h1, h2⟩ := hc k _ (List.getElem?_eq_getElem hk)
  exact ⟨b, o, rs[k], a, hA, hb, List.getElem?_eq_getElem hk, h1, h2⟩
end Go.Proofs.YtlmclpbkhhgekaaDoor
