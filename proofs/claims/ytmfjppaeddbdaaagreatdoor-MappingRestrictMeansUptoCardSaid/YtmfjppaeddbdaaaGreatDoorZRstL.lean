/- Restrict: what its loop has collected, step by step. -/
import Derived.Test.YtmfjppaeddbdaaaGreatDoorZOutM
import Derived.Test.YtmfjppaeddbdaaaGreatDoorZRightW
set_option linter.unusedVariables false
set_option linter.unusedSimpArgs false
namespace Go.Proofs.YtmfjppaeddbdaaaGreatDoor
open Go Go.RowKit Sy

theorem resL_app (g : Reg) : ∀ (m ms : List Ent), resL g (m ++ ms) = match resL g m with
    | none => none
    | some l => (resL g ms).map (l ++ ·)
  | [], ms => by
    simp only [List.nil_append, resL]
    simp
  | x :: m, ms => by
    have ih := resL_app g m ms
    simp only [List.cons_append, resL]
    by_cases h : (narL x.rule g.b).2 ≠ 0
    · rw [if_pos h, if_pos h]
    · rw [if_neg h, if_neg h]
      rcases (narL x.rule g.b).1 with _ | n
      · exact ih
      · simp only
        rcases putH n (x.hs ++ g.hs) with _ | o
        · rfl
        · simp only
          rw [ih]
          rcases resL g m with _ | l
          · rfl
          · simp only [Option.map_some]
            rcases resL g ms with _ | l'
            · rfl
            · simp
theorem resL_one (g : Reg) (x : Ent) : resL g [x] = if (narL x.rule g.b).2 ≠ 0 then none else match (narL x.rule g.b).1 with
    | none => some []
    | some n => (putH n (x.hs ++ g.hs)).map Option.toList := by
  simp only [resL]
  by_cases h : (narL x.rule g.b).2 ≠ 0
  · rw [if_pos h, if_pos h]
  · rw [if_neg h, if_neg h]
    rcases (narL x.rule g.b).1 with _ | n
    · rfl
    · simp only
      rcases putH n (x.hs ++ g.hs) with _ | o
      · rfl
      · simp
def ResTo (g : Reg) (es : List Ent) (k : Nat) (out : List Ent) : Prop := resL g (es.take k) = some out ∧ out.length ≤ k
theorem ResTo.zero (g : Reg) (es : List Ent) : ResTo g es 0 [] := ⟨rfl, Nat.le_refl _⟩
theorem resTo_stop {g : Reg} {es : List Ent} {k : Nat} {x : Ent} (hx : es[k]? = some x) (h : resL g [x] = none) : resL g es = none := by
  have h1 : resL g (es.take (k + 1)) = none := by
    rw [take_snoc hx, resL_app, h]
    rcases resL g (es.take k) with _ | l <;> rfl
  have h2 := resL_app g (es.take (k + 1)) (es.drop (k + 1))
  rw [List.take_append_drop, h1] at h2
  exact h2
theorem ResTo.step {g : Reg} {es : List Ent} {k : Nat} {out : List Ent} (h : ResTo g es k out) {x : Ent} (hx : es[k]? = some x) {l : List Ent} (hl : resL g [x] = some l) (h1 : l.length ≤ 1) : ResTo g es (k + 1) (out ++ l) := by
  refine ⟨?_, by have := h.2; rw [List.length_append]; omega⟩
  rw [take_snoc hx, resL_app, h.1, hl]
  rfl
theorem ResTo.all {g : Reg} {es : List Ent} {k : Nat} {out : List Ent} (h : ResTo g es k out) (hk : es.length ≤ k) : resL g es = some out := by
  have := h.1
  rw [List.take_of_length_le hk] at this
  exact this
theorem resL_miss {g : Reg} {x : Ent} (h0 : (narL x.rule g.b).2 = 0) (h1 : (narL x.rule g.b).1 = none) : resL g [x] = some [] := by
  rw [resL_one, if_neg (by simpa using h0), h1]
theorem resL_bad {g : Reg} {x : Ent} (h0 : (narL x.rule g.b).2 ≠ 0) : resL g [x] = none := by rw [resL_one, if_pos h0]
theorem resL_far {g : Reg} {x : Ent} {n : Rule} (h0 : (narL x.rule g.b).2 = 0) (h1 : (narL x.rule g.b).1 = some n) (h2 : putH n (x.hs ++ g.hs) = none) : resL g [x] = none := by
  rw [resL_one, if_neg (by simpa using h0), h1]
  simp only
  rw [h2]
  rfl
theorem resL_hit {g : Reg} {x : Ent} {n : Rule} {o : Option Ent} (h0 : (narL x.rule g.b).2 = 0) (h1 : (narL x.rule g.b).1 = some n) (h2 : putH n (x.hs ++ g.hs) = some o) : resL g [x] = some o.toList := by
  rw [resL_one, if_neg (by simpa using h0), h1]
  simp only
  rw [h2]
  rfl
structure RegX (w : World) (A : Option Addr) (c : Nat) (HA : Option Addr) (hc : Nat) (g : Reg) : Prop where
  base : StrsU w A g.b.parts
  room : g.b.parts.length ≤ c
  cap : c ≤ 9223372036854775807
  holes : PatsU w HA g.hs
  hroom : g.hs.length ≤ hc
  hcap : hc ≤ 9223372036854775807
theorem RegX.calm {w w' : World} {A : Option Addr} {c : Nat} {HA : Option Addr} {hc : Nat} {g : Reg} (h : RegX w A c HA hc g) (hm : Calm w w') : RegX w' A c HA hc g := ⟨h.base.calm hm, h.room, h.cap, h.holes.calm hm, h.hroom, h.hcap⟩
structure SmallX (g : Reg) : Prop where
  b : ∀ s ∈ g.b.parts, s.length ≤ 250
  h : ∀ p ∈ g.hs, ∀ s ∈ p.parts, s.length ≤ 250
theorem RegX.pat {w : World} {A : Option Addr} {c : Nat} {HA : Option Addr} {hc : Nat} {g : Reg} (h : RegX w A c HA hc g) (hs : SmallX g) (hg : gErr g = 0) : PatA w A c g.b := by
  have h1 := (patErr_iff.1 (gErr_zero hg).1).2.2.1
  exact ⟨h.base.toR (by omega) (fun s hs' => by have := hs.b s hs'; omega), h.room, h.cap⟩
theorem RegX.pats {w : World} {A : Option Addr} {c : Nat} {HA : Option Addr} {hc : Nat} {g : Reg} (h : RegX w A c HA hc g) (hs : SmallX g) (hg : gErr g = 0) : PatsR w HA g.hs := by
  obtain ⟨_, h2, h3⟩ := gErr_zero hg
  exact h.holes.toR (by omega) (fun p hp => ⟨by have := (patErr_iff.1 (h2 p hp)).2.2.1; omega, fun s hs' => by have := hs.h p hp s hs'; omega⟩)
end Go.Proofs.YtmfjppaeddbdaaaGreatDoor
