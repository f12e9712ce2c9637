/- The inverse of a mapping is a mapping and means the other way round. No program in sight. -/
import Derived.Test.YteplgaabicminaaGreatDoorZMapL
set_option linter.unusedVariables false
set_option linter.unusedSimpArgs false
namespace Go.Proofs.YteplgaabicminaaGreatDoor.Sy

end Go.Proofs.YteplgaabicminaaGreatDoor.Sy
set_option linter.unusedVariables false
set_option linter.unusedSimpArgs false
namespace Go.Proofs.YteplgaabicminaaGreatDoor.Sy
def Both (p q : Pat) (n : Nat) (l : List Str) : Prop := l.length = n ∧ l.all comp = true ∧ matchL p l = true ∧ matchL q l = true
def Cov (hs : List Pat) (P : List Str → Prop) : Prop := ∃ h ∈ hs, ∀ l, P l → matchL h l = true
theorem Cov.app {hs ks : List Pat} {P : List Str → Prop} : Cov (hs ++ ks) P ↔ Cov hs P ∨ Cov ks P := by
  constructor
  · rintro ⟨h, hm, hc⟩
    rcases List.mem_append.1 hm with hm | hm
    · exact .inl ⟨h, hm, hc⟩
    · exact .inr ⟨h, hm, hc⟩
  · rintro (⟨h, hm, hc⟩ | ⟨h, hm, hc⟩)
    · exact ⟨h, List.mem_append_left _ hm, hc⟩
    · exact ⟨h, List.mem_append_right _ hm, hc⟩
theorem Cov.mono {hs ks : List Pat} {P Q : List Str → Prop} (h : Cov hs P) (h1 : ∀ x ∈ hs, x ∈ ks) (h2 : ∀ l, Q l → P l) : Cov ks Q := by
  obtain ⟨x, hx, hc⟩ := h
  exact ⟨x, h1 x hx, fun l hl => hc l (h2 l hl)⟩
theorem Cov.one {hs : List Pat} {l : List Str} : Cov hs (fun k => k = l) ↔ (hs.any fun h => matchL h l) = true := by
  rw [List.any_eq_true]
  constructor
  · rintro ⟨h, hm, hc⟩
    exact ⟨h, hm, hc l rfl⟩
  · rintro ⟨h, hm, hc⟩
    exact ⟨h, hm, fun k hk => hk ▸ hc⟩
theorem commonG_false {a b : Reg} (ha : patErr a.b = 0) (hb : patErr b.b = 0) : commonG a b = false ↔ ∀ n, (∃ l, Both a.b b.b n l) → Cov (a.hs ++ b.hs) (Both a.b b.b n) := by
  unfold commonG
  rcases hm : meetP a.b b.b with _ | m
  · have h1 : meetL a.b b.b = none := by
      unfold meetP at hm
      rw [if_pos ⟨ha, hb⟩] at hm
      exact hm
    simp only [true_iff]
    rintro n ⟨l, _, hc, h2, h3⟩
    have := meetL_nomatch h1 hc
    rw [h2, h3] at this
    cases this
  · obtain ⟨g1, g2, g3, h4⟩ := meetP_some hm
    have h0 : 0 < m.parts.length := (patErr_form h4).1
    have hok := allOk_of h4
    have hml := fun (l : List Str) (hc : l.all comp = true) => meetL_match (allOk_of g1) (allOk_of g2) g3 hc
    simp only
    rw [bne_eq_false_iff_eq, zero_iff h0]
    constructor
    · rintro H n ⟨l0, e0, hc0, h2, h3⟩
      have hm0 : matchL m l0 = true := by rw [hml l0 hc0, h2, h3]; rfl
      have hr := (matchL_true.1 hm0).1
      rw [e0] at hr
      have hf := H n hr
      rw [full_any, List.any_eq_true] at hf
      obtain ⟨h, hh, hf⟩ := hf
      exact ⟨h, hh, fun l ⟨e, hc, k2, k3⟩ => (full_one hok hr).1 hf l e hc (by rw [hml l hc, k2, k3]; rfl)⟩
    · intro H n hr
      obtain ⟨l0, e0, hc0, hm0⟩ := some_path hok hr
      have hm0' := hm0
      rw [hml l0 hc0, Bool.and_eq_true] at hm0'
      obtain ⟨h, hh, hf⟩ := H n ⟨l0, e0, hc0, hm0'⟩
      rw [full_any, List.any_eq_true]
      refine ⟨h, hh, (full_one hok hr).2 fun l e hc hl => ?_⟩
      rw [hml l hc, Bool.and_eq_true] at hl
      exact hf l ⟨e, hc, hl⟩
theorem common_none {a b : Reg} (ha : patErr a.b = 0) (hb : patErr b.b = 0) (h : commonG a b = false) {l : List Str} (hc : l.all comp = true) : (hasG a l && hasG b l) = false := by
  rcases hx : hasG a l && hasG b l with _ | _
  · rfl
  · exfalso
    rw [Bool.and_eq_true] at hx
    obtain ⟨h1, h2⟩ := hx
    unfold hasG hasL at h1 h2
    rw [Bool.and_eq_true] at h1 h2
    obtain ⟨k, hk, hm⟩ := (commonG_false ha hb).1 h l.length ⟨l, rfl, hc, h1.1, h2.1⟩
    have hkl := hm l ⟨rfl, hc, h1.1, h2.1⟩
    rcases List.mem_append.1 hk with hk | hk
    · have := h1.2
      simp only [Bool.not_eq_true', List.any_eq_false] at this
      exact this k hk hkl
    · have := h2.2
      simp only [Bool.not_eq_true', List.any_eq_false] at this
      exact this k hk hkl
theorem cov_red {x : Pat} {ps : List Pat} {P : List Str → Prop} (hx : patErr x = 0) (hps : ∀ p ∈ ps, patErr p = 0) (hP : ∀ l, P l → l.all comp = true ∧ matchL x l = true) (h0 : ∃ l, P l) : Cov (redL x ps) P ↔ Cov ps P := by
  obtain ⟨l0, hl0⟩ := h0
  constructor
  · rintro ⟨k, hk, hf⟩
    obtain ⟨p, hp, hmt⟩ := meetsL_mem.1 (redL_mem.1 hk).1
    obtain ⟨g1, g2, g3, _⟩ := meetP_some hmt
    refine ⟨p, hp, fun l hl => ?_⟩
    have h1 := hf l hl
    rw [meetL_match (allOk_of g1) (allOk_of g2) g3 (hP l hl).1, Bool.and_eq_true] at h1
    exact h1.2
  · rintro ⟨p, hp, hf⟩
    rcases hmt : meetP x p with _ | k
    · have h1 : meetL x p = none := by
        unfold meetP at hmt
        rw [if_pos ⟨hx, hps p hp⟩] at hmt
        exact hmt
      have h2 := meetL_nomatch h1 (hP l0 hl0).1
      rw [(hP l0 hl0).2, hf l0 hl0] at h2
      cases h2
    · obtain ⟨g1, g2, g3, g4⟩ := meetP_some hmt
      obtain ⟨k', hk', hin'⟩ := redL_above (meetsL_mem.2 ⟨p, hp, hmt⟩)
      refine ⟨k', hk', fun l hl => ?_⟩
      refine insideP_match (allOk_of g4) hin' (hP l hl).1 ?_
      rw [meetL_match (allOk_of g1) (allOk_of g2) g3 (hP l hl).1, (hP l hl).2, hf l hl]
      rfl

/-! ### the right side -/
theorem rightHs_mem {r : Rule} : ∀ {hs ks : List Pat}, rightHs r hs = some ks → (∀ h ∈ hs, (narL r h).2 = 0) ∧ ∀ k, k ∈ ks ↔ ∃ h ∈ hs, ∃ n, (narL r h).1 = some n ∧ k = n.right
  | [], ks, h => by
    obtain rfl := Option.some.inj h
    exact ⟨fun h hh => (by cases hh), fun k => ⟨fun hk => (by cases hk), fun ⟨h, hh, _⟩ => (by cases hh)⟩⟩
  | x :: hs, ks, h => by
    unfold rightHs at h
    split at h
    · cases h
    · rename_i h0
      obtain ⟨l, hl, rfl⟩ := Option.map_eq_some_iff.1 h
      obtain ⟨h1, h2⟩ := rightHs_mem hl
      refine ⟨fun y hy => ?_, fun k => ?_⟩
      · rcases List.mem_cons.1 hy with rfl | hy
        · simpa using h0
        · exact h1 y hy
      · rw [List.mem_append, h2 k]
        constructor
        · rintro (hk | ⟨y, hy, n, hn, rfl⟩)
          · rw [Option.mem_toList] at hk
            obtain ⟨n, hn, rfl⟩ := Option.map_eq_some_iff.1 hk
            exact ⟨x, by simp, n, hn, rfl⟩
          · exact ⟨y, List.mem_cons_of_mem _ hy, n, hn, rfl⟩
        · rintro ⟨y, hy, n, hn, rfl⟩
          rcases List.mem_cons.1 hy with rfl | hy
          · refine .inl ?_
            rw [hn]
            simp
          · exact .inr ⟨y, hy, n, hn, rfl⟩
theorem cov_right {r : Rule} {hs ks : List Pat} (hr : ruleErr r = 0) (hh : ∀ h ∈ hs, patErr h = 0) (hk : rightHs r hs = some ks) {P : List Str → Prop} (hP : ∀ q, P q → q.all comp = true ∧ matchL r.right q = true) (h0 : ∃ q, P q) :
    Cov ks P ↔ Cov hs (fun l => l.all comp = true ∧ matchL r.left l = true ∧ P (trL r.left r.right l)) := by
  obtain ⟨m1, m2⟩ := rightHs_mem hk
  have tw := ruleErr_twin.1 hr
  have back := fun (q : List Str) (hq : P q) => tr_twin tw.turn (hP q hq).1 (hP q hq).2
  constructor
  · rintro ⟨k, hkm, hf⟩
    obtain ⟨h, hhm, n, hn, rfl⟩ := (m2 k).1 hkm
    refine ⟨h, hhm, fun l ⟨hc, hl, hp⟩ => ?_⟩
    rw [← narL_right hn hc hl]
    exact hf _ hp
  · rintro ⟨h, hhm, hf⟩
    obtain ⟨q0, hq0⟩ := h0
    obtain ⟨b1, b2, _, b4⟩ := back q0 hq0
    have hf0 := hf _ ⟨b2, b1, by rw [b4]; exact hq0⟩
    rcases hn : (narL r h).1 with _ | n
    · rw [narL_none hr (hh h hhm) hn (m1 h hhm) b2 b1] at hf0
      cases hf0
    · refine ⟨n.right, (m2 _).2 ⟨h, hhm, n, hn, rfl⟩, fun q hq => ?_⟩
      obtain ⟨c1, c2, _, c4⟩ := back q hq
      have := narL_right hn c2 c1
      rw [c4] at this
      rw [this]
      exact hf _ ⟨c2, c1, by rw [c4]; exact hq⟩
theorem right_any {r : Rule} {hs ks : List Pat} (hr : ruleErr r = 0) (hh : ∀ h ∈ hs, patErr h = 0) (hk : rightHs r hs = some ks) {l : List Str} (hc : l.all comp = true) (hl : matchL r.left l = true) : (ks.any fun k => matchL k (trL r.left r.right l)) = hs.any fun h => matchL h l := by
  have tw := ruleErr_twin.1 hr
  obtain ⟨t1, t2, _, t4⟩ := tr_twin tw hc hl
  rw [Bool.eq_iff_iff, ← Cov.one, ← Cov.one, cov_right hr hh hk (P := fun q => q = trL r.left r.right l) (fun q hq => by rw [hq]; exact ⟨t2, t1⟩) ⟨_, rfl⟩]
  constructor
  · rintro ⟨h, hm, hf⟩
    exact ⟨h, hm, fun k hk => hf k (by rw [hk]; exact ⟨hc, hl, rfl⟩)⟩
  · rintro ⟨h, hm, hf⟩
    refine ⟨h, hm, fun k ⟨k1, k2, k3⟩ => hf k ?_⟩
    obtain ⟨_, _, _, s4⟩ := tr_twin tw k1 k2
    rw [k3, t4] at s4
    exact s4.symm
theorem right_has {x : Ent} {g : Reg} (hr : ruleErr x.rule = 0) (hg : gErr x.reg = 0) (h : rightG x = some g) {l : List Str} (hc : l.all comp = true) (hl : matchL x.left l = true) : hasG g (trL x.left x.right l) = hasG x.reg l := by
  obtain ⟨ks, hk, rfl⟩ := Option.map_eq_some_iff.1 h
  have tw := ruleErr_twin.1 hr
  have t1 := (tr_twin tw hc hl).1
  have := right_any hr (gErr_zero hg).2.1 hk hc hl
  unfold hasG hasL Ent.reg
  show (matchL x.right _ && _) = (matchL x.left l && _)
  rw [show matchL x.right (trL x.left x.right l) = true from t1, hl]
  show (true && !(ks.any fun k => matchL k (trL x.left x.right l))) = _
  rw [show (ks.any fun k => matchL k (trL x.left x.right l)) = x.hs.any fun h => matchL h l from this]
end Go.Proofs.YteplgaabicminaaGreatDoor.Sy
set_option linter.unusedVariables false
set_option linter.unusedSimpArgs false
namespace Go.Proofs.YteplgaabicminaaGreatDoor.Sy
def fwdM (m : List Ent) (s : Str) : Option Str := match pathOf s with
  | none => none
  | some l => (m.find? fun x => hasG x.reg l).map fun x => pathStr (trL x.left x.right l)
def hasR' (r : List Str) (x : Ent) : Bool := matchL x.right r && hasG x.reg (trL x.right x.left r)
def bwdM (m : List Ent) (s : Str) : Option Str := match pathOf s with
  | none => none
  | some r => (m.find? (hasR' r)).map fun x => pathStr (trL x.right x.left r)
def invOf (x : Ent) : Option Ent := match rightG x with
  | none => none
  | some g => if leastLen x.right (redL x.right g.hs) = 0 then none else some ⟨x.right, x.left, redL x.right g.hs⟩
def invE (m : List Ent) : List Ent × Int := if (mapE m).2 ≠ 0 then ([], (mapE m).2) else (m.filterMap invOf, 0)

/-! ### lists of which no two have it -/
def Apart {α : Type} (p : α → Bool) (m : List α) : Prop := ∀ (i j : Nat) x y, m[i]? = some x → m[j]? = some y → j < i → (p x && p y) = false
theorem Apart.tail {α : Type} {p : α → Bool} {a : α} {m : List α} (h : Apart p (a :: m)) : Apart p m := fun i j x y hi hj hji => h (i + 1) (j + 1) x y (by simpa using hi) (by simpa using hj) (by omega)
theorem Apart.count {α : Type} {p : α → Bool} : ∀ {m : List α}, Apart p m → m.countP p ≤ 1
  | [], _ => by simp
  | a :: m, h => by
    have ih := h.tail.count
    rw [List.countP_cons]
    rcases ha : p a with _ | _
    · simpa using ih
    · have h0 : m.countP p = 0 := by
        rw [List.countP_eq_zero]
        intro x hx
        obtain ⟨j, hj, e⟩ := List.mem_iff_getElem.1 hx
        have := h (j + 1) 0 x a (by simp [List.getElem?_eq_getElem hj, e]) (by simp) (by omega)
        rw [ha, Bool.and_true] at this
        rw [this]
        simp
      rw [h0]
      simp
theorem Apart.find {α : Type} {p : α → Bool} {m : List α} (h : Apart p m) {x : α} (hx : x ∈ m) (hp : p x = true) : m.find? p = some x := by
  obtain ⟨i, hi, e⟩ := List.mem_iff_getElem.1 hx
  have hix : m[i]? = some x := by rw [List.getElem?_eq_getElem hi, e]
  rw [List.find?_eq_some_iff_getElem]
  refine ⟨hp, i, hi, e, fun j hj => ?_⟩
  have := h i j x m[j] hix (List.getElem?_eq_getElem (by omega)) hj
  rw [hp, Bool.true_and] at this
  rw [this]
  rfl

/-! ### forth and back -/
theorem Mapping.left_apart {m : List Ent} (h : Mapping m) {l : List Str} (hc : l.all comp = true) : Apart (fun x : Ent => hasG x.reg l) m := fun i j x y hi hj hji => by
  have hcl := h.apart i j x y hi hj hji
  unfold clashE at hcl
  rw [Bool.or_eq_false_iff] at hcl
  have hx := h.good x (List.mem_of_getElem? hi)
  have hy := h.good y (List.mem_of_getElem? hj)
  exact common_none (a := x.reg) (b := y.reg) (gErr_zero hx.2).1 (gErr_zero hy.2).1 hcl.1 hc
theorem hasR'_rG {x : Ent} (hr : ruleErr x.rule = 0) (hg : gErr x.reg = 0) {g : Reg} (h : rightG x = some g) {r : List Str} (hc : r.all comp = true) : hasR' r x = hasG g r := by
  have tw : Twin x.left x.right := ruleErr_twin.1 hr
  obtain ⟨ks, _, hgk⟩ := Option.map_eq_some_iff.1 h
  unfold hasR'
  rcases hm : matchL x.right r with _ | _
  · rw [← hgk]
    unfold hasG hasL
    show false = (matchL x.right r && _)
    rw [hm]
    rfl
  · obtain ⟨t1, t2, _, t4⟩ := tr_twin tw.turn hc hm
    have := right_has hr hg h t2 t1
    rw [show trL x.left x.right (trL x.right x.left r) = r from t4] at this
    rw [this, Bool.true_and]
theorem rG_some {x : Ent} {g : Reg} (h : rightG x = some g) : rG x = g ∧ g.b = x.right := by
  obtain ⟨ks, _, rfl⟩ := Option.map_eq_some_iff.1 h
  unfold rG
  rw [h]
  exact ⟨rfl, rfl⟩
theorem Mapping.right_apart {m : List Ent} (h : Mapping m) {r : List Str} (hc : r.all comp = true) : Apart (hasR' r) m := fun i j x y hi hj hji => by
  have hcl := h.apart i j x y hi hj hji
  unfold clashE at hcl
  rw [Bool.or_eq_false_iff] at hcl
  have hx := h.good x (List.mem_of_getElem? hi)
  have hy := h.good y (List.mem_of_getElem? hj)
  obtain ⟨g, hg⟩ := h.right x (List.mem_of_getElem? hi)
  obtain ⟨k, hk⟩ := h.right y (List.mem_of_getElem? hj)
  rw [hasR'_rG hx.1 hx.2 hg hc, hasR'_rG hy.1 hy.2 hk hc]
  have e := hcl.2
  rw [(rG_some hg).1, (rG_some hk).1] at e
  exact common_none (by rw [(rG_some hg).2]; exact (ruleErr_twin.1 hx.1).rp) (by rw [(rG_some hk).2]; exact (ruleErr_twin.1 hy.1).rp) e hc
theorem pathStr_of {s : Str} {l : List Str} (h : pathOf s = some l) : s = pathStr l := (pathOf_some h).2.2
theorem bwd_fwd {m : List Ent} (h : Mapping m) {s t : Str} (hb : bwdM m s = some t) : fwdM m t = some s := by
  unfold bwdM at hb
  rcases hp : pathOf s with _ | r
  · rw [hp] at hb; cases hb
  · rw [hp] at hb
    obtain ⟨x, hx, rfl⟩ := Option.map_eq_some_iff.1 hb
    have hxm := List.mem_of_find?_eq_some hx
    have hxp := List.find?_some hx
    unfold hasR' at hxp
    rw [Bool.and_eq_true] at hxp
    have hc := (pathOf_some hp).2.1
    have tw : Twin x.left x.right := ruleErr_twin.1 (h.good x hxm).1
    obtain ⟨t1, t2, t3, t4⟩ := tr_twin tw.turn hc hxp.1
    unfold fwdM
    rw [pathOf_str t3 t2]
    simp only
    rw [(h.left_apart t2).find hxm hxp.2, Option.map_some, t4, pathStr_of hp]
theorem fwd_bwd {m : List Ent} (h : Mapping m) {s t : Str} (hf : fwdM m s = some t) : bwdM m t = some s := by
  unfold fwdM at hf
  rcases hp : pathOf s with _ | l
  · rw [hp] at hf; cases hf
  · rw [hp] at hf
    obtain ⟨x, hx, rfl⟩ := Option.map_eq_some_iff.1 hf
    have hxm := List.mem_of_find?_eq_some hx
    have hxp := List.find?_some hx
    have hc := (pathOf_some hp).2.1
    have hm : matchL x.left l = true := by
      unfold hasG hasL at hxp
      rw [Bool.and_eq_true] at hxp
      exact hxp.1
    have tw : Twin x.left x.right := ruleErr_twin.1 (h.good x hxm).1
    obtain ⟨t1, t2, t3, t4⟩ := tr_twin tw hc hm
    unfold bwdM
    rw [pathOf_str t3 t2]
    simp only
    rw [(h.right_apart t2).find hxm (by unfold hasR'; rw [t1, t4, hxp]; rfl), Option.map_some, t4, pathStr_of hp]
end Go.Proofs.YteplgaabicminaaGreatDoor.Sy
set_option linter.unusedVariables false
set_option linter.unusedSimpArgs false
namespace Go.Proofs.YteplgaabicminaaGreatDoor.Sy

theorem rightHs_of {r : Rule} : ∀ {hs : List Pat}, (∀ h ∈ hs, (narL r h).2 = 0) → ∃ ks, rightHs r hs = some ks
  | [], _ => ⟨[], rfl⟩
  | x :: hs, h => by
    obtain ⟨ks, hk⟩ := rightHs_of (hs := hs) fun y hy => h y (List.mem_cons_of_mem _ hy)
    unfold rightHs
    rw [if_neg (by simpa using h x (by simp)), hk]
    exact ⟨_, rfl⟩
theorem hole_back {r : Rule} (hr : ruleErr r = 0) {hs ks : List Pat} (hk : rightHs r hs = some ks) {k : Pat} (hkm : k ∈ ks) : ∃ m0, narL ⟨false, r.right, r.left⟩ k = (some ⟨false, k, m0⟩, 0) ∧ meetP r.right k = some k := by
  obtain ⟨h, _, n, hn, rfl⟩ := ((rightHs_mem hk).2 k).1 hkm
  obtain ⟨_, _, _, m0, hm0, rfl, h12, hin⟩ := narL_some hn
  have hti := hin.turn h12
  have hmt : meetP r.right (carryP r.left r.right m0) = some (carryP r.left r.right m0) := meetP_inside hin.tw.rp hti.good hti.inn
  refine ⟨m0, ?_, hmt⟩
  have hre : ruleErr (⟨false, r.right, r.left⟩ : Rule) = 0 := ruleErr_twin.2 hin.tw.turn
  have hml : m0.parts.length ≤ 12 := (patErr_iff.1 hin.good).2.2.1
  unfold narL
  rw [if_neg (by simpa using hre), if_neg (by simpa using hti.good)]
  show (match meetP r.right (carryP r.left r.right m0) with | none => _ | some m => _) = _
  rw [hmt]
  simp only
  rw [hin.back, if_neg (by omega)]
theorem inv_mem {x n : Ent} (h : invOf x = some n) : ∃ g, rightG x = some g ∧ leastLen x.right (redL x.right g.hs) ≠ 0 ∧ n = ⟨x.right, x.left, redL x.right g.hs⟩ := by
  unfold invOf at h
  rcases hg : rightG x with _ | g
  · rw [hg] at h; cases h
  · rw [hg] at h
    simp only at h
    split at h
    · cases h
    · rename_i h0
      exact ⟨g, rfl, h0, (Option.some.inj h).symm⟩
theorem inv_good {x n : Ent} (hr : ruleErr x.rule = 0) (hg : gErr x.reg = 0) (h : invOf x = some n) : ruleErr n.rule = 0 ∧ gErr n.reg = 0 ∧ ∃ g, rightG n = some g := by
  obtain ⟨g, hgx, _, rfl⟩ := inv_mem h
  obtain ⟨ks, hk, rfl⟩ := Option.map_eq_some_iff.1 hgx
  have tw : Twin x.left x.right := ruleErr_twin.1 hr
  refine ⟨ruleErr_twin.2 tw.turn, gErr_of tw.rp (fun p hp => redL_good p hp) ?_, ?_⟩
  · have h1 := redL_len x.right ks
    have h2 := (rightHs_good hk).2
    have h3 := (gErr_zero hg).2.2
    show (redL x.right ks).length ≤ 64
    have : x.reg.hs.length = x.hs.length := rfl
    omega
  · obtain ⟨k', hk'⟩ := rightHs_of (r := (⟨x.right, x.left, redL x.right ks⟩ : Ent).rule) (hs := redL x.right ks) (fun h' hh' => by
      obtain ⟨k, hkm, hmt⟩ := meetsL_mem.1 (redL_mem.1 hh').1
      obtain ⟨m0, hb, hm⟩ := hole_back hr hk hkm
      have : h' = k := by
        rw [show x.rule.right = x.right from rfl] at hm
        rw [hm] at hmt
        exact (Option.some.inj hmt).symm
      subst this
      show (narL ⟨false, x.right, x.left⟩ h').2 = 0
      rw [show (⟨false, x.right, x.left⟩ : Rule) = ⟨false, x.rule.right, x.rule.left⟩ from rfl, hb])
    refine ⟨⟨x.left, k'⟩, ?_⟩
    unfold rightG
    show (rightHs _ (redL x.right ks)).map _ = _
    rw [hk']
    rfl
theorem cov_inv {x : Ent} (hr : ruleErr x.rule = 0) (hg : gErr x.reg = 0) {ks k' : List Pat} (hk : rightHs x.rule x.hs = some ks) (hk' : rightHs ⟨false, x.right, x.left⟩ (redL x.right ks) = some k') {P : List Str → Prop} (hP : ∀ l, P l → l.all comp = true ∧ matchL x.left l = true) (h0 : ∃ l, P l) (h : Cov x.hs P) : Cov k' P := by
  have tw : Twin x.left x.right := ruleErr_twin.1 hr
  obtain ⟨l0, hl0⟩ := h0
  obtain ⟨t1, t2, _, t4⟩ := tr_twin tw (hP l0 hl0).1 (hP l0 hl0).2
  have hre : ruleErr (⟨false, x.right, x.left⟩ : Rule) = 0 := ruleErr_twin.2 tw.turn
  refine (cov_right (r := ⟨false, x.right, x.left⟩) hre (fun h hh => redL_good h hh) hk' (P := P) hP ⟨l0, hl0⟩).2 ?_
  refine (cov_red tw.rp (fun k hkm => (rightHs_good hk).1 k hkm) (fun q hq => ⟨hq.1, hq.2.1⟩) ⟨trL x.left x.right l0, t2, t1, by
    show P (trL x.right x.left (trL x.left x.right l0))
    rw [show trL x.right x.left (trL x.left x.right l0) = l0 from t4]
    exact hl0⟩).2 ?_
  refine (cov_right hr (gErr_zero hg).2.1 hk (fun q hq => ⟨hq.1, hq.2.1⟩) ⟨trL x.left x.right l0, t2, t1, by
    show P (trL x.right x.left (trL x.left x.right l0))
    rw [show trL x.right x.left (trL x.left x.right l0) = l0 from t4]
    exact hl0⟩).2 ?_
  refine h.mono (fun y hy => hy) fun l ⟨hc, hl, _, _, hp⟩ => ?_
  obtain ⟨_, _, _, s4⟩ := tr_twin tw hc hl
  have e : trL x.right x.left (trL x.left x.right l) = l := s4
  have hp' : P (trL x.right x.left (trL x.left x.right l)) := hp
  rw [e] at hp'
  exact hp'
theorem inv_clash {x y nx ny : Ent} (hx : ruleErr x.rule = 0 ∧ gErr x.reg = 0) (hy : ruleErr y.rule = 0 ∧ gErr y.reg = 0) (h : clashE x y = false) (ix : invOf x = some nx) (iy : invOf y = some ny) : clashE nx ny = false := by
  obtain ⟨_, _, kx, hkx⟩ := inv_good hx.1 hx.2 ix
  obtain ⟨_, _, ky, hky⟩ := inv_good hy.1 hy.2 iy
  obtain ⟨gx, hgx, _, rfl⟩ := inv_mem ix
  obtain ⟨gy, hgy, _, rfl⟩ := inv_mem iy
  obtain ⟨k1, hk1, rfl⟩ := Option.map_eq_some_iff.1 hgx
  obtain ⟨k2, hk2, rfl⟩ := Option.map_eq_some_iff.1 hgy
  unfold clashE at h ⊢
  rw [Bool.or_eq_false_iff] at h ⊢
  rw [(rG_some hgx).1, (rG_some hgy).1] at h
  refine ⟨?_, ?_⟩
  · have := commonG_red (a := ⟨x.right, k1⟩) (b := ⟨y.right, k2⟩) (rightHs_good hk1).1 (rightHs_good hk2).1
    show commonG ⟨x.right, redL x.right k1⟩ ⟨y.right, redL y.right k2⟩ = false
    rw [this]
    exact h.2
  · rw [(rG_some hkx).1, (rG_some hky).1]
    obtain ⟨j1, hj1, rfl⟩ := Option.map_eq_some_iff.1 hkx
    obtain ⟨j2, hj2, rfl⟩ := Option.map_eq_some_iff.1 hky
    have px := (ruleErr_twin.1 hx.1).lp
    have py := (ruleErr_twin.1 hy.1).lp
    refine (commonG_false (a := ⟨x.left, j1⟩) (b := ⟨y.left, j2⟩) px py).2 fun n hn => ?_
    have hc := (commonG_false (a := x.reg) (b := y.reg) px py).1 h.1 n hn
    rw [Cov.app] at hc ⊢
    rcases hc with hc | hc
    · exact .inl (cov_inv hx.1 hx.2 hk1 hj1 (fun l hl => ⟨hl.2.1, hl.2.2.1⟩) hn hc)
    · exact .inr (cov_inv hy.1 hy.2 hk2 hj2 (fun l hl => ⟨hl.2.1, hl.2.2.2⟩) hn hc)
theorem Mapping.pairs {m : List Ent} (h : Mapping m) : m.Pairwise fun y x => clashE x y = false := by
  rw [List.pairwise_iff_getElem]
  intro i j hi hj hij
  exact h.apart j i _ _ (List.getElem?_eq_getElem hj) (List.getElem?_eq_getElem hi) hij
theorem apart_of {m : List Ent} (h : m.Pairwise fun y x => clashE x y = false) : ∀ (i j : Nat) x y, m[i]? = some x → m[j]? = some y → j < i → clashE x y = false := fun i j x y hi hj hji => by
  rw [List.pairwise_iff_getElem] at h
  obtain ⟨h1, rfl⟩ := List.getElem?_eq_some_iff.1 hi
  obtain ⟨h2, rfl⟩ := List.getElem?_eq_some_iff.1 hj
  exact h j i h2 h1 hji
theorem inv_mapping {m : List Ent} (h : Mapping m) : Mapping (m.filterMap invOf) := by
  have mem := fun n (hn : n ∈ m.filterMap invOf) => List.mem_filterMap.1 hn
  refine ⟨fun n hn => ?_, Nat.le_trans (List.length_filterMap_le _ _) h.few, fun n hn => ?_, apart_of ?_⟩
  · obtain ⟨x, hx, hi⟩ := mem n hn
    have := inv_good (h.good x hx).1 (h.good x hx).2 hi
    exact ⟨this.1, this.2.1⟩
  · obtain ⟨x, hx, hi⟩ := mem n hn
    exact (inv_good (h.good x hx).1 (h.good x hx).2 hi).2.2
  · rw [List.pairwise_filterMap]
    have hp : m.Pairwise fun y x => (ruleErr y.rule = 0 ∧ gErr y.reg = 0) ∧ (ruleErr x.rule = 0 ∧ gErr x.reg = 0) ∧ clashE x y = false := by
      have h1 := h.pairs
      rw [List.pairwise_iff_getElem] at h1 ⊢
      exact fun i j hi hj hij => ⟨h.good _ (List.getElem_mem hi), h.good _ (List.getElem_mem hj), h1 i j hi hj hij⟩
    exact hp.imp fun ⟨gy, gx, hc⟩ ny iy nx ix => inv_clash gx gy hc ix iy
theorem inv_some {x : Ent} (hr : ruleErr x.rule = 0) (hg : gErr x.reg = 0) {g : Reg} (h : rightG x = some g) {r : List Str} (hc : r.all comp = true) (hh : hasR' r x = true) : ∃ n, invOf x = some n ∧ hasG n.reg r = true ∧ n.left = x.right ∧ n.right = x.left := by
  rw [hasR'_rG hr hg h hc] at hh
  obtain ⟨ks, hk, rfl⟩ := Option.map_eq_some_iff.1 h
  have tw : Twin x.left x.right := ruleErr_twin.1 hr
  have h1 : hasL x.right (redL x.right ks) r = true := by
    rw [redL_has tw.rp (rightHs_good hk).1 hc]
    exact hh
  have h2 := (least_len (patErr_form tw.rp).1 hc h1).1
  refine ⟨⟨x.right, x.left, redL x.right ks⟩, ?_, h1, rfl, rfl⟩
  unfold invOf
  rw [h]
  simp only
  rw [if_neg h2]
theorem inv_has {x n : Ent} (hr : ruleErr x.rule = 0) (hg : gErr x.reg = 0) (h : invOf x = some n) {r : List Str} (hc : r.all comp = true) : hasG n.reg r = hasR' r x := by
  obtain ⟨g, hgx, _, rfl⟩ := inv_mem h
  rw [hasR'_rG hr hg hgx hc]
  obtain ⟨ks, hk, rfl⟩ := Option.map_eq_some_iff.1 hgx
  exact redL_has (ruleErr_twin.1 hr).rp (rightHs_good hk).1 hc
theorem inv_fwd {m : List Ent} (h : Mapping m) (s : Str) : fwdM (m.filterMap invOf) s = bwdM m s := by
  unfold fwdM bwdM
  rcases hp : pathOf s with _ | r
  · rfl
  · have hc := (pathOf_some hp).2.1
    simp only
    rcases hf : m.find? (hasR' r) with _ | x
    · have : (m.filterMap invOf).find? (fun x => hasG x.reg r) = none := by
        rw [List.find?_eq_none]
        intro n hn
        obtain ⟨x, hx, hi⟩ := List.mem_filterMap.1 hn
        rw [inv_has (h.good x hx).1 (h.good x hx).2 hi hc]
        have := List.find?_eq_none.1 hf x hx
        exact this
      rw [this]
      rfl
    · have hx := List.mem_of_find?_eq_some hf
      have hxp := List.find?_some hf
      obtain ⟨g, hg⟩ := h.right x hx
      obtain ⟨n, hi, hh, e1, e2⟩ := inv_some (h.good x hx).1 (h.good x hx).2 hg hc hxp
      have hn : n ∈ m.filterMap invOf := List.mem_filterMap.2 ⟨x, hx, hi⟩
      rw [((inv_mapping h).left_apart hc).find hn hh, Option.map_some, Option.map_some, e1, e2]
theorem inv_bwd {m : List Ent} (h : Mapping m) (s : Str) : bwdM (m.filterMap invOf) s = fwdM m s := by
  rcases hf : fwdM m s with _ | t
  · rcases hb : bwdM (m.filterMap invOf) s with _ | u
    · rfl
    · have h1 := bwd_fwd (inv_mapping h) hb
      rw [inv_fwd h] at h1
      rw [bwd_fwd h h1] at hf
      cases hf
  · have h1 := fwd_bwd h hf
    rw [← inv_fwd h] at h1
    exact fwd_bwd (inv_mapping h) h1
end Go.Proofs.YteplgaabicminaaGreatDoor.Sy
