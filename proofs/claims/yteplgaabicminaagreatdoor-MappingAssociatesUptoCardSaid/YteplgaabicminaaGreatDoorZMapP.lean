/- Plain laws: what Compose means, at the codes and results as they are handed back (ComposeMeans, Opposite, Associates). -/
import Derived.Test.YteplgaabicminaaGreatDoorZBwdM
import Derived.Test.YteplgaabicminaaGreatDoorZMapV
import Derived.Test.YteplgaabicminaaGreatDoorZPutA
import Derived.Test.YteplgaabicminaaGreatDoorZInvM
import Derived.Test.YteplgaabicminaaGreatDoorZMapD
set_option linter.unusedVariables false
set_option linter.unusedSimpArgs false
namespace Go.Proofs.YteplgaabicminaaGreatDoor
open Go Go.RowKit Sy

theorem mapping_zero {m : List Ent} (h : Mapping m) : (mapE m).2 = 0 := by
  rcases mapE_or h.good (fun _ => by
    rw [List.pairwise_iff_getElem]
    intro i j hi hj hij
    exact h.apart j i _ _ (List.getElem?_eq_getElem hj) (List.getElem?_eq_getElem hi) hij) with h1 | h1
  · exact h1
  · exfalso
    unfold mapE at h1
    have e1 : m.findIdx? (fun x => !entryOk x) = none := by
      rw [List.findIdx?_eq_none_iff]
      intro x hx
      rw [entryOk_iff.2 (h.good x hx)]
      rfl
    rw [e1] at h1
    simp only at h1
    have hf := h.few
    rw [if_neg (by omega)] at h1
    have e2 : ¬ (m.any (fun x => (rightG x).isNone) = true) := by
      rw [List.any_eq_true]
      rintro ⟨x, hx, hn⟩
      obtain ⟨g, hg⟩ := h.right x hx
      rw [hg] at hn
      cases hn
    rw [if_neg e2] at h1
    rcases e3 : (List.range m.length).find? (clashAt m) with _ | i
    · rw [e3] at h1; cases h1
    · rw [e3] at h1; cases h1
theorem hasS_path {x : Ent} (hg : gErr x.reg = 0) {s : Str} {l : List Str} (hp : pathOf s = some l) : hasS x.left x.hs s = hasG x.reg l := by
  rw [hasS_hasR (b := x.left) (hs := x.hs) (gErr_zero hg).1 (gErr_zero hg).2.1]
  unfold hasR
  rw [hp]
  rfl
theorem hasS_nopath {b : Pat} {hs : List Pat} {s : Str} (hp : pathOf s = none) : hasS b hs s = false := by
  unfold hasS
  rw [matchS, hp]
  rfl
theorem hasG_match {x : Ent} {l : List Str} (h : hasG x.reg l = true) : matchL x.left l = true := by
  unfold hasG hasL at h
  rw [Bool.and_eq_true] at h
  exact h.1
theorem fwd_path {r : Rule} (hr : ruleErr r = 0) {s : Str} {l : List Str} (hp : pathOf s = some l) : fwd r s = if matchL r.left l then some (pathStr (trL r.left r.right l)) else none := by
  unfold fwd
  rw [if_pos hr, hp]
theorem fwd_nopath {r : Rule} {s : Str} (hp : pathOf s = none) : fwd r s = none := by
  unfold fwd
  rw [hp]
  split <;> rfl
theorem find_congr {α : Type} {p q : α → Bool} : ∀ {l : List α}, (∀ a ∈ l, p a = q a) → l.find? p = l.find? q
  | [], _ => rfl
  | a :: l, h => by
    rw [List.find?_cons, List.find?_cons, h a List.mem_cons_self, find_congr fun b hb => h b (List.mem_cons_of_mem _ hb)]
theorem bySE_fwdM {es : List Ent} (h : Mapping es) (s : Str) : bySE es s = fwdM es s := by
  unfold bySE fwdM
  rcases hp : pathOf s with _ | l
  · have : es.find? (fun x => hasS x.left x.hs s) = none := by
      rw [List.find?_eq_none]
      intro x hx
      rw [hasS_nopath hp]
      simp
    rw [this]
  · have e : es.find? (fun x => hasS x.left x.hs s) = es.find? fun x => hasG x.reg l := find_congr fun x hx => hasS_path (h.good x hx).2 hp
    rw [e]
    rcases hf : es.find? (fun x => hasG x.reg l) with _ | x
    · simp only [hf]
      rfl
    · have hx := List.mem_of_find?_eq_some hf
      have hh := List.find?_some (p := fun x : Ent => hasG x.reg l) hf
      simp only [hf, Option.map_some]
      rw [fwd_path (h.good x hx).1 hp, if_pos (show matchL x.rule.left l = true from hasG_match hh)]
      rfl
theorem bwE_path {x : Ent} (hr : ruleErr x.rule = 0) (hg : gErr x.reg = 0) {s : Str} {r : List Str} (hp : pathOf s = some r) : bwE x s = if hasR' r x then some (pathStr (trL x.right x.left r)) else none := by
  have hc := (pathOf_some hp).2.1
  have tw : Sy.Twin x.left x.right := ruleErr_twin.1 hr
  unfold bwE
  rw [fwd_path ((turn_err x.rule).2 hr) hp]
  show Option.filter _ (if matchL x.right r then some (pathStr (trL x.right x.left r)) else none) = _
  unfold hasR'
  rcases hm : matchL x.right r with _ | _
  · rfl
  · obtain ⟨t1, t2, t3, t4⟩ := tr_twin tw.turn hc hm
    simp only [if_true, Bool.true_and, Option.filter, hasS_path hg (pathOf_str t3 t2)]
theorem bwS_bwdM {es : List Ent} (h : Mapping es) (s : Str) : bwS es s = bwdM es s := by
  unfold bwS bwdM
  rcases hp : pathOf s with _ | r
  · rw [List.findSome?_eq_none_iff]
    intro x hx
    exact bwE_no (fwd_nopath hp)
  · simp only
    have key : ∀ es : List Ent, (∀ x ∈ es, ruleErr x.rule = 0 ∧ gErr x.reg = 0) → es.findSome? (fun x => bwE x s) = (es.find? (hasR' r)).map fun x => pathStr (trL x.right x.left r) := fun es => by
      induction es with
      | nil => intro _; rfl
      | cons x es ih =>
        intro hg
        have hx := hg x List.mem_cons_self
        rw [List.findSome?_cons, List.find?_cons, bwE_path hx.1 hx.2 hp]
        rcases hh : hasR' r x with _ | _
        · simp only [Bool.false_eq_true, if_false]
          exact ih fun y hy => hg y (List.mem_cons_of_mem _ hy)
        · simp
    exact key es h.good
def mfS (es : List Ent) (s : Str) : Option Str := if (mapE es).2 = 0 then fwdM es s else none
def mbS (es : List Ent) (s : Str) : Option Str := if (mapE es).2 = 0 then bwdM es s else none
def optV (o : Option Str) : Value := .tuple #[.string (bs (o.getD [])), .bool o.isSome]
theorem mfV_eq (es : List Ent) (s : Str) : mfV es s = optV (mfS es s) := by
  unfold mfV mfS
  by_cases h : (mapE es).2 = 0
  · rw [if_pos h, if_pos h]
    unfold byV optV
    rw [bySE_fwdM (mapE_zero h).1]
  · rw [if_neg h, if_neg h]
    rfl
theorem mbV_eq (es : List Ent) (s : Str) : mbV es s = optV (mbS es s) := by
  unfold mbV mbS
  by_cases h : (mapE es).2 = 0
  · rw [if_pos h, if_pos h]
    unfold bwV optV
    rw [bwS_bwdM (mapE_zero h).1]
  · rw [if_neg h, if_neg h]
    rfl
theorem inv_ok {es : List Ent} (h : (invE es).2 = 0) : (mapE es).2 = 0 ∧ (mapE (invE es).1).2 = 0 ∧ ∀ s, mfS (invE es).1 s = mbS es s ∧ mbS (invE es).1 s = mfS es s := by
  unfold invE at h ⊢
  by_cases h0 : (mapE es).2 ≠ 0
  · rw [if_pos h0] at h
    exact absurd h h0
  · rw [if_neg h0]
    have hm := (mapE_zero (by simpa using h0)).1
    have hi := inv_mapping hm
    have hz := mapping_zero hi
    refine ⟨by simpa using h0, hz, fun s => ?_⟩
    unfold mfS mbS
    rw [if_pos hz, if_pos (show (mapE es).2 = 0 by simpa using h0), if_pos hz, if_pos (show (mapE es).2 = 0 by simpa using h0)]
    exact ⟨inv_fwd hm s, inv_bwd hm s⟩
end Go.Proofs.YteplgaabicminaaGreatDoor
set_option linter.unusedVariables false
set_option linter.unusedSimpArgs false
namespace Go.Proofs.YteplgaabicminaaGreatDoor
open Go Go.RowKit Sy

theorem comE_ok {a b : List Ent} (h : (comE a b).2 = 0) : (mapE a).2 = 0 ∧ (mapE b).2 = 0 ∧ comL (pairsL a b) = some (comE a b).1 := by
  unfold comE at h ⊢
  by_cases h0 : (mapE a).2 ≠ 0
  · rw [if_pos h0] at h
    exact absurd h h0
  · rw [if_neg h0] at h ⊢
    by_cases h1 : (mapE b).2 ≠ 0
    · rw [if_pos h1] at h
      exact absurd h h1
    · rw [if_neg h1] at h ⊢
      rcases hr : comL (pairsL a b) with _ | l
      · rw [hr] at h
        cases h
      · rw [hr] at h
        simp only at h ⊢
        by_cases h2 : 32 < l.length
        · rw [if_pos h2] at h
          cases h
        · rw [if_neg h2]
          exact ⟨by simpa using h0, by simpa using h1, rfl⟩
theorem comE_err {a b : List Ent} (h : (comE a b).2 = 0) : (mapE (comE a b).1).2 = 0 ∨ (mapE (comE a b).1).2 = 72 := by
  obtain ⟨h1, h2, h3⟩ := comE_ok h
  exact com_map (mapE_zero h1).1 (mapE_zero h2).1 h3
theorem comE_fwd {a b : List Ent} (h : (comE a b).2 = 0) (hz : (mapE (comE a b).1).2 = 0) (s : Str) : mfS (comE a b).1 s = (mfS a s).bind (mfS b) := by
  obtain ⟨h1, h2, h3⟩ := comE_ok h
  have e : ∀ t, mfS b t = fwdM b t := fun t => by unfold mfS; rw [if_pos h2]
  have e2 : mfS b = fwdM b := funext e
  rw [e2]
  unfold mfS
  rw [if_pos hz, if_pos h1]
  exact com_mean (mapE_zero h1).1 (mapE_zero h2).1 h3 (mapE_zero hz).1 s
theorem comE_bwd {a b : List Ent} (h : (comE a b).2 = 0) (hz : (mapE (comE a b).1).2 = 0) (s : Str) : mbS (comE a b).1 s = (mbS b s).bind (mbS a) := by
  obtain ⟨h1, h2, h3⟩ := comE_ok h
  have e : ∀ t, mbS a t = bwdM a t := fun t => by unfold mbS; rw [if_pos h1]
  have e2 : mbS a = bwdM a := funext e
  rw [e2]
  unfold mbS
  rw [if_pos hz, if_pos h2]
  exact com_bwd (mapE_zero h1).1 (mapE_zero h2).1 h3 (mapE_zero hz).1 s
theorem opposite {a b : List Ent} (h : (comE a b).2 = 0) (ha : (invE a).2 = 0) (hb : (invE b).2 = 0) (hd : (comE (invE b).1 (invE a).1).2 = 0) (hz : (mapE (comE a b).1).2 = 0) (hdz : (mapE (comE (invE b).1 (invE a).1).1).2 = 0) (s : Str) : mbS (comE a b).1 s = mfS (comE (invE b).1 (invE a).1).1 s := by
  have e : mfS (invE a).1 = mbS a := funext fun t => ((inv_ok ha).2.2 t).1
  rw [comE_bwd h hz, comE_fwd hd hdz, ((inv_ok hb).2.2 s).1, e]
theorem associates {a b c : List Ent} (hx : (comE a b).2 = 0) (hy : (comE b c).2 = 0) (hl : (comE (comE a b).1 c).2 = 0) (hr : (comE a (comE b c).1).2 = 0) (hlz : (mapE (comE (comE a b).1 c).1).2 = 0) (hrz : (mapE (comE a (comE b c).1).1).2 = 0) (s : Str) : mfS (comE (comE a b).1 c).1 s = mfS (comE a (comE b c).1).1 s := by
  have e : mfS (comE b c).1 = fun t => (mfS b t).bind (mfS c) := funext fun t => comE_fwd hy (comE_ok hr).2.1 t
  rw [comE_fwd hl hlz, comE_fwd hr hrz, comE_fwd hx (comE_ok hl).1, e]
  rcases mfS a s with _ | t <;> rfl
end Go.Proofs.YteplgaabicminaaGreatDoor
