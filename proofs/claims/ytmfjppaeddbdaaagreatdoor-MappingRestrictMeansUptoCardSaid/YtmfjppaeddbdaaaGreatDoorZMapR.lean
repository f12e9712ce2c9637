/- A mapping restricted to a region. No program in sight. -/
import Derived.Test.YtmfjppaeddbdaaaGreatDoorZMapL
set_option linter.unusedVariables false
set_option linter.unusedSimpArgs false
namespace Go.Proofs.YtmfjppaeddbdaaaGreatDoor.Sy

end Go.Proofs.YtmfjppaeddbdaaaGreatDoor.Sy
set_option linter.unusedVariables false
set_option linter.unusedSimpArgs false
namespace Go.Proofs.YtmfjppaeddbdaaaGreatDoor.Sy
def Both (p q : Pat) (n : Nat) (l : List Str) : Prop := l.length = n ∧ l.all comp = true ∧ matchL p l = true ∧ matchL q l = true
def Cov (hs : List Pat) (P : List Str → Prop) : Prop := ∃ h ∈ hs, ∀ l, P l → matchL h l = true
theorem Cov.app {hs ks : List Pat} {P : List Str → Prop} : Cov (hs ++ ks) P ↔ Cov hs P ∨ Cov ks P := by
  constructor
  · rintro ⟨h, hm, hc⟩
    rcases List.mem_append.1 hm with hm | hm
    · exact .inl ⟨h, hm, hc⟩
    · exact .inr ⟨h, hm, hc⟩
  · rintro (⟨h, hm, hc⟩ | ⟨h, hm, hc⟩)
    · exact ⟨h, List.mem_append_left _ hm, hc⟩
    · exact ⟨h, List.mem_append_right _ hm, hc⟩
theorem Cov.mono {hs ks : List Pat} {P Q : List Str → Prop} (h : Cov hs P) (h1 : ∀ x ∈ hs, x ∈ ks) (h2 : ∀ l, Q l → P l) : Cov ks Q := by
  obtain ⟨x, hx, hc⟩ := h
  exact ⟨x, h1 x hx, fun l hl => hc l (h2 l hl)⟩
theorem Cov.one {hs : List Pat} {l : List Str} : Cov hs (fun k => k = l) ↔ (hs.any fun h => matchL h l) = true := by
  rw [List.any_eq_true]
  constructor
  · rintro ⟨h, hm, hc⟩
    exact ⟨h, hm, hc l rfl⟩
  · rintro ⟨h, hm, hc⟩
    exact ⟨h, hm, fun k hk => hk ▸ hc⟩
theorem commonG_false {a b : Reg} (ha : patErr a.b = 0) (hb : patErr b.b = 0) : commonG a b = false ↔ ∀ n, (∃ l, Both a.b b.b n l) → Cov (a.hs ++ b.hs) (Both a.b b.b n) := by
  unfold commonG
  rcases hm : meetP a.b b.b with _ | m
  · have h1 : meetL a.b b.b = none := by
      unfold meetP at hm
      rw [if_pos ⟨ha, hb⟩] at hm
      exact hm
    simp only [true_iff]
    rintro n ⟨l, _, hc, h2, h3⟩
    have := meetL_nomatch h1 hc
    rw [h2, h3] at this
    cases this
  · obtain ⟨g1, g2, g3, h4⟩ := meetP_some hm
    have h0 : 0 < m.parts.length := (patErr_form h4).1
    have hok := allOk_of h4
    have hml := fun (l : List Str) (hc : l.all comp = true) => meetL_match (allOk_of g1) (allOk_of g2) g3 hc
    simp only
    rw [bne_eq_false_iff_eq, zero_iff h0]
    constructor
    · rintro H n ⟨l0, e0, hc0, h2, h3⟩
      have hm0 : matchL m l0 = true := by rw [hml l0 hc0, h2, h3]; rfl
      have hr := (matchL_true.1 hm0).1
      rw [e0] at hr
      have hf := H n hr
      rw [full_any, List.any_eq_true] at hf
      obtain ⟨h, hh, hf⟩ := hf
      exact ⟨h, hh, fun l ⟨e, hc, k2, k3⟩ => (full_one hok hr).1 hf l e hc (by rw [hml l hc, k2, k3]; rfl)⟩
    · intro H n hr
      obtain ⟨l0, e0, hc0, hm0⟩ := some_path hok hr
      have hm0' := hm0
      rw [hml l0 hc0, Bool.and_eq_true] at hm0'
      obtain ⟨h, hh, hf⟩ := H n ⟨l0, e0, hc0, hm0'⟩
      rw [full_any, List.any_eq_true]
      refine ⟨h, hh, (full_one hok hr).2 fun l e hc hl => ?_⟩
      rw [hml l hc, Bool.and_eq_true] at hl
      exact hf l ⟨e, hc, hl⟩
theorem common_none {a b : Reg} (ha : patErr a.b = 0) (hb : patErr b.b = 0) (h : commonG a b = false) {l : List Str} (hc : l.all comp = true) : (hasG a l && hasG b l) = false := by
  rcases hx : hasG a l && hasG b l with _ | _
  · rfl
  · exfalso
    rw [Bool.and_eq_true] at hx
    obtain ⟨h1, h2⟩ := hx
    unfold hasG hasL at h1 h2
    rw [Bool.and_eq_true] at h1 h2
    obtain ⟨k, hk, hm⟩ := (commonG_false ha hb).1 h l.length ⟨l, rfl, hc, h1.1, h2.1⟩
    have hkl := hm l ⟨rfl, hc, h1.1, h2.1⟩
    rcases List.mem_append.1 hk with hk | hk
    · have := h1.2
      simp only [Bool.not_eq_true', List.any_eq_false] at this
      exact this k hk hkl
    · have := h2.2
      simp only [Bool.not_eq_true', List.any_eq_false] at this
      exact this k hk hkl
theorem cov_red {x : Pat} {ps : List Pat} {P : List Str → Prop} (hx : patErr x = 0) (hps : ∀ p ∈ ps, patErr p = 0) (hP : ∀ l, P l → l.all comp = true ∧ matchL x l = true) (h0 : ∃ l, P l) : Cov (redL x ps) P ↔ Cov ps P := by
  obtain ⟨l0, hl0⟩ := h0
  constructor
  · rintro ⟨k, hk, hf⟩
    obtain ⟨p, hp, hmt⟩ := meetsL_mem.1 (redL_mem.1 hk).1
    obtain ⟨g1, g2, g3, _⟩ := meetP_some hmt
    refine ⟨p, hp, fun l hl => ?_⟩
    have h1 := hf l hl
    rw [meetL_match (allOk_of g1) (allOk_of g2) g3 (hP l hl).1, Bool.and_eq_true] at h1
    exact h1.2
  · rintro ⟨p, hp, hf⟩
    rcases hmt : meetP x p with _ | k
    · have h1 : meetL x p = none := by
        unfold meetP at hmt
        rw [if_pos ⟨hx, hps p hp⟩] at hmt
        exact hmt
      have h2 := meetL_nomatch h1 (hP l0 hl0).1
      rw [(hP l0 hl0).2, hf l0 hl0] at h2
      cases h2
    · obtain ⟨g1, g2, g3, g4⟩ := meetP_some hmt
      obtain ⟨k', hk', hin'⟩ := redL_above (meetsL_mem.2 ⟨p, hp, hmt⟩)
      refine ⟨k', hk', fun l hl => ?_⟩
      refine insideP_match (allOk_of g4) hin' (hP l hl).1 ?_
      rw [meetL_match (allOk_of g1) (allOk_of g2) g3 (hP l hl).1, (hP l hl).2, hf l hl]
      rfl

/-! ### the right side -/
theorem rightHs_mem {r : Rule} : ∀ {hs ks : List Pat}, rightHs r hs = some ks → (∀ h ∈ hs, (narL r h).2 = 0) ∧ ∀ k, k ∈ ks ↔ ∃ h ∈ hs, ∃ n, (narL r h).1 = some n ∧ k = n.right
  | [], ks, h => by
    obtain rfl := Option.some.inj h
    exact ⟨fun h hh => (by cases hh), fun k => ⟨fun hk => (by cases hk), fun ⟨h, hh, _⟩ => (by cases hh)⟩⟩
  | x :: hs, ks, h => by
    unfold rightHs at h
    split at h
    · cases h
    · rename_i h0
      obtain ⟨l, hl, rfl⟩ := Option.map_eq_some_iff.1 h
      obtain ⟨h1, h2⟩ := rightHs_mem hl
      refine ⟨fun y hy => ?_, fun k => ?_⟩
      · rcases List.mem_cons.1 hy with rfl | hy
        · simpa using h0
        · exact h1 y hy
      · rw [List.mem_append, h2 k]
        constructor
        · rintro (hk | ⟨y, hy, n, hn, rfl⟩)
          · rw [Option.mem_toList] at hk
            obtain ⟨n, hn, rfl⟩ := Option.map_eq_some_iff.1 hk
            exact ⟨x, by simp, n, hn, rfl⟩
          · exact ⟨y, List.mem_cons_of_mem _ hy, n, hn, rfl⟩
        · rintro ⟨y, hy, n, hn, rfl⟩
          rcases List.mem_cons.1 hy with rfl | hy
          · refine .inl ?_
            rw [hn]
            simp
          · exact .inr ⟨y, hy, n, hn, rfl⟩
theorem cov_right {r : Rule} {hs ks : List Pat} (hr : ruleErr r = 0) (hh : ∀ h ∈ hs, patErr h = 0) (hk : rightHs r hs = some ks) {P : List Str → Prop} (hP : ∀ q, P q → q.all comp = true ∧ matchL r.right q = true) (h0 : ∃ q, P q) :
    Cov ks P ↔ Cov hs (fun l => l.all comp = true ∧ matchL r.left l = true ∧ P (trL r.left r.right l)) := by
  obtain ⟨m1, m2⟩ := rightHs_mem hk
  have tw := ruleErr_twin.1 hr
  have back := fun (q : List Str) (hq : P q) => tr_twin tw.turn (hP q hq).1 (hP q hq).2
  constructor
  · rintro ⟨k, hkm, hf⟩
    obtain ⟨h, hhm, n, hn, rfl⟩ := (m2 k).1 hkm
    refine ⟨h, hhm, fun l ⟨hc, hl, hp⟩ => ?_⟩
    rw [← narL_right hn hc hl]
    exact hf _ hp
  · rintro ⟨h, hhm, hf⟩
    obtain ⟨q0, hq0⟩ := h0
    obtain ⟨b1, b2, _, b4⟩ := back q0 hq0
    have hf0 := hf _ ⟨b2, b1, by rw [b4]; exact hq0⟩
    rcases hn : (narL r h).1 with _ | n
    · rw [narL_none hr (hh h hhm) hn (m1 h hhm) b2 b1] at hf0
      cases hf0
    · refine ⟨n.right, (m2 _).2 ⟨h, hhm, n, hn, rfl⟩, fun q hq => ?_⟩
      obtain ⟨c1, c2, _, c4⟩ := back q hq
      have := narL_right hn c2 c1
      rw [c4] at this
      rw [this]
      exact hf _ ⟨c2, c1, by rw [c4]; exact hq⟩
end Go.Proofs.YtmfjppaeddbdaaaGreatDoor.Sy
set_option linter.unusedVariables false
set_option linter.unusedSimpArgs false
namespace Go.Proofs.YtmfjppaeddbdaaaGreatDoor.Sy
def fwdM (m : List Ent) (s : Str) : Option Str := match pathOf s with
  | none => none
  | some l => (m.find? fun x => hasG x.reg l).map fun x => pathStr (trL x.left x.right l)
def invOf (x : Ent) : Option Ent := match rightG x with
  | none => none
  | some g => if leastLen x.right (redL x.right g.hs) = 0 then none else some ⟨x.right, x.left, redL x.right g.hs⟩
def invE (m : List Ent) : List Ent × Int := if (mapE m).2 ≠ 0 then ([], (mapE m).2) else (m.filterMap invOf, 0)

/-! ### lists of which no two have it -/
def Apart {α : Type} (p : α → Bool) (m : List α) : Prop := ∀ (i j : Nat) x y, m[i]? = some x → m[j]? = some y → j < i → (p x && p y) = false
theorem Apart.tail {α : Type} {p : α → Bool} {a : α} {m : List α} (h : Apart p (a :: m)) : Apart p m := fun i j x y hi hj hji => h (i + 1) (j + 1) x y (by simpa using hi) (by simpa using hj) (by omega)
theorem Apart.count {α : Type} {p : α → Bool} : ∀ {m : List α}, Apart p m → m.countP p ≤ 1
  | [], _ => by simp
  | a :: m, h => by
    have ih := h.tail.count
    rw [List.countP_cons]
    rcases ha : p a with _ | _
    · simpa using ih
    · have h0 : m.countP p = 0 := by
        rw [List.countP_eq_zero]
        intro x hx
        obtain ⟨j, hj, e⟩ := List.mem_iff_getElem.1 hx
        have := h (j + 1) 0 x a (by simp [List.getElem?_eq_getElem hj, e]) (by simp) (by omega)
        rw [ha, Bool.and_true] at this
        rw [this]
        simp
      rw [h0]
      simp
theorem Apart.find {α : Type} {p : α → Bool} {m : List α} (h : Apart p m) {x : α} (hx : x ∈ m) (hp : p x = true) : m.find? p = some x := by
  obtain ⟨i, hi, e⟩ := List.mem_iff_getElem.1 hx
  have hix : m[i]? = some x := by rw [List.getElem?_eq_getElem hi, e]
  rw [List.find?_eq_some_iff_getElem]
  refine ⟨hp, i, hi, e, fun j hj => ?_⟩
  have := h i j x m[j] hix (List.getElem?_eq_getElem (by omega)) hj
  rw [hp, Bool.true_and] at this
  rw [this]
  rfl

/-! ### forth and back -/
theorem Mapping.left_apart {m : List Ent} (h : Mapping m) {l : List Str} (hc : l.all comp = true) : Apart (fun x : Ent => hasG x.reg l) m := fun i j x y hi hj hji => by
  have hcl := h.apart i j x y hi hj hji
  unfold clashE at hcl
  rw [Bool.or_eq_false_iff] at hcl
  have hx := h.good x (List.mem_of_getElem? hi)
  have hy := h.good y (List.mem_of_getElem? hj)
  exact common_none (a := x.reg) (b := y.reg) (gErr_zero hx.2).1 (gErr_zero hy.2).1 hcl.1 hc
theorem rG_some {x : Ent} {g : Reg} (h : rightG x = some g) : rG x = g ∧ g.b = x.right := by
  obtain ⟨ks, _, rfl⟩ := Option.map_eq_some_iff.1 h
  unfold rG
  rw [h]
  exact ⟨rfl, rfl⟩
end Go.Proofs.YtmfjppaeddbdaaaGreatDoor.Sy
set_option linter.unusedVariables false
set_option linter.unusedSimpArgs false
namespace Go.Proofs.YtmfjppaeddbdaaaGreatDoor.Sy

theorem Mapping.pairs {m : List Ent} (h : Mapping m) : m.Pairwise fun y x => clashE x y = false := by
  rw [List.pairwise_iff_getElem]
  intro i j hi hj hij
  exact h.apart j i _ _ (List.getElem?_eq_getElem hj) (List.getElem?_eq_getElem hi) hij
theorem apart_of {m : List Ent} (h : m.Pairwise fun y x => clashE x y = false) : ∀ (i j : Nat) x y, m[i]? = some x → m[j]? = some y → j < i → clashE x y = false := fun i j x y hi hj hji => by
  rw [List.pairwise_iff_getElem] at h
  obtain ⟨h1, rfl⟩ := List.getElem?_eq_some_iff.1 hi
  obtain ⟨h2, rfl⟩ := List.getElem?_eq_some_iff.1 hj
  exact h j i h2 h1 hji
end Go.Proofs.YtmfjppaeddbdaaaGreatDoor.Sy
set_option linter.unusedVariables false
set_option linter.unusedSimpArgs false
namespace Go.Proofs.YtmfjppaeddbdaaaGreatDoor.Sy
def putH (n : Rule) (hs : List Pat) : Option (Option Ent) :=
  if 64 < (redL n.left hs).length then none else if leastLen n.left (redL n.left hs) = 0 then some none else some (some ⟨n.left, n.right, redL n.left hs⟩)
def resL (g : Reg) : List Ent → Option (List Ent)
  | [] => some []
  | x :: m => if (narL x.rule g.b).2 ≠ 0 then none else match (narL x.rule g.b).1 with
    | none => resL g m
    | some n => match putH n (x.hs ++ g.hs) with
      | none => none
      | some o => (resL g m).map (o.toList ++ ·)
def resE (m : List Ent) (g : Reg) : List Ent × Int := if (mapE m).2 ≠ 0 then ([], (mapE m).2) else if gErr g ≠ 0 then ([], 73) else match resL g m with
  | none => ([], 72)
  | some es => (es, 0)
theorem mapE_or {es : List Ent} (h : ∀ x ∈ es, ruleErr x.rule = 0 ∧ gErr x.reg = 0) (hc : (∀ x ∈ es, ∃ g, rightG x = some g) → es.Pairwise fun y x => clashE x y = false) : (mapE es).2 = 0 ∨ (mapE es).2 = 72 := by
  unfold mapE
  rcases h1 : es.findIdx? (fun x => !entryOk x) with _ | i
  · simp only
    by_cases h2 : 32 < es.length
    · rw [if_pos h2]; exact .inr rfl
    · rw [if_neg h2]
      by_cases h3 : es.any (fun x => (rightG x).isNone) = true
      · rw [if_pos h3]; exact .inr rfl
      · rw [if_neg h3]
        have hr : ∀ x ∈ es, ∃ g, rightG x = some g := fun x hx => by
          rw [Bool.not_eq_true, List.any_eq_false] at h3
          have := h3 x hx
          rcases h5 : rightG x with _ | g
          · rw [h5] at this
            simp at this
          · exact ⟨g, rfl⟩
        have ha := apart_of (hc hr)
        rcases h4 : (List.range es.length).find? (clashAt es) with _ | i
        · exact .inl rfl
        · exfalso
          have h5 := List.find?_some h4
          have h6 := List.mem_range.1 (List.mem_of_find?_eq_some h4)
          unfold clashAt at h5
          obtain ⟨j, hj, h7⟩ := List.any_eq_true.1 h5
          have hji := List.mem_range.1 hj
          have e1 := List.getElem?_eq_getElem h6
          have e2 := List.getElem?_eq_getElem (l := es) (i := j) (by omega)
          rw [getD_of e1, getD_of e2, ha i j _ _ e1 e2 hji] at h7
          cases h7
  · exfalso
    have h2 := (List.findIdx?_eq_some_iff_getElem.1 h1).2.1
    have := entryOk_iff.2 (h _ (List.getElem_mem (List.findIdx?_eq_some_iff_getElem.1 h1).1))
    rw [this] at h2
    simp at h2
structure Sub (x n : Ent) : Prop where
  good : ruleErr n.rule = 0
  left : ∀ l : List Str, l.all comp = true → matchL n.left l = true → matchL x.left l = true
  tr : ∀ l : List Str, l.all comp = true → matchL n.left l = true → trL n.left n.right l = trL x.left x.right l
  holes : ∀ p ∈ n.hs, patErr p = 0
  cov : ∀ P : List Str → Prop, (∀ l, P l → l.all comp = true ∧ matchL n.left l = true) → (∃ l, P l) → Cov x.hs P → Cov n.hs P
theorem Sub.right {x n : Ent} (h : Sub x n) (hx : ruleErr x.rule = 0) {q : List Str} (hc : q.all comp = true) (hq : matchL n.right q = true) : matchL x.right q = true := by
  have tn : Twin n.left n.right := ruleErr_twin.1 h.good
  have tx : Twin x.left x.right := ruleErr_twin.1 hx
  obtain ⟨t1, t2, _, t4⟩ := tr_twin tn.turn hc hq
  have := (tr_twin tx t2 (h.left _ t2 t1)).1
  rw [← h.tr _ t2 t1, t4] at this
  exact this
theorem sub_clash {x y nx ny : Ent} (hx : ruleErr x.rule = 0 ∧ gErr x.reg = 0) (hy : ruleErr y.rule = 0 ∧ gErr y.reg = 0) (rx : ∃ g, rightG x = some g) (ry : ∃ g, rightG y = some g) (sx : Sub x nx) (sy : Sub y ny) (kx : ∃ g, rightG nx = some g) (ky : ∃ g, rightG ny = some g) (h : clashE x y = false) : clashE nx ny = false := by
  obtain ⟨gx, hgx⟩ := rx
  obtain ⟨gy, hgy⟩ := ry
  obtain ⟨fx, hfx⟩ := kx
  obtain ⟨fy, hfy⟩ := ky
  have tx : Twin x.left x.right := ruleErr_twin.1 hx.1
  have ty : Twin y.left y.right := ruleErr_twin.1 hy.1
  have ux : Twin nx.left nx.right := ruleErr_twin.1 sx.good
  have uy : Twin ny.left ny.right := ruleErr_twin.1 sy.good
  unfold clashE at h ⊢
  rw [Bool.or_eq_false_iff] at h ⊢
  rw [(rG_some hgx).1, (rG_some hgy).1] at h
  rw [(rG_some hfx).1, (rG_some hfy).1]
  obtain ⟨k1, hk1, rfl⟩ := Option.map_eq_some_iff.1 hgx
  obtain ⟨k2, hk2, rfl⟩ := Option.map_eq_some_iff.1 hgy
  obtain ⟨j1, hj1, rfl⟩ := Option.map_eq_some_iff.1 hfx
  obtain ⟨j2, hj2, rfl⟩ := Option.map_eq_some_iff.1 hfy
  refine ⟨?_, ?_⟩
  · refine (commonG_false (a := nx.reg) (b := ny.reg) ux.lp uy.lp).2 fun n hn => ?_
    have sub : ∀ l, Both nx.left ny.left n l → Both x.left y.left n l := fun l hl => ⟨hl.1, hl.2.1, sx.left l hl.2.1 hl.2.2.1, sy.left l hl.2.1 hl.2.2.2⟩
    obtain ⟨l0, hl0⟩ := hn
    have hc := (commonG_false (a := x.reg) (b := y.reg) tx.lp ty.lp).1 h.1 n ⟨l0, sub l0 hl0⟩
    rw [Cov.app] at hc ⊢
    rcases hc with hc | hc
    · exact .inl (sx.cov _ (fun l hl => ⟨hl.2.1, hl.2.2.1⟩) ⟨l0, hl0⟩ (hc.mono (fun y hy => hy) sub))
    · exact .inr (sy.cov _ (fun l hl => ⟨hl.2.1, hl.2.2.2⟩) ⟨l0, hl0⟩ (hc.mono (fun y hy => hy) sub))
  · refine (commonG_false (a := ⟨nx.right, j1⟩) (b := ⟨ny.right, j2⟩) ux.rp uy.rp).2 fun n hn => ?_
    have sub : ∀ l, Both nx.right ny.right n l → Both x.right y.right n l := fun l hl => ⟨hl.1, hl.2.1, sx.right hx.1 hl.2.1 hl.2.2.1, sy.right hy.1 hl.2.1 hl.2.2.2⟩
    obtain ⟨q0, hq0⟩ := hn
    have hc := (commonG_false (a := ⟨x.right, k1⟩) (b := ⟨y.right, k2⟩) tx.rp ty.rp).1 h.2 n ⟨q0, sub q0 hq0⟩
    have one : ∀ {z m : Ent} {ks js : List Pat}, ruleErr z.rule = 0 → gErr z.reg = 0 → Sub z m → rightHs z.rule z.hs = some ks → rightHs m.rule m.hs = some js → (∀ q, Both nx.right ny.right n q → matchL m.right q = true) → Cov ks (Both x.right y.right n) → Cov js (Both nx.right ny.right n) := fun {z m ks js} hz hzg hs hk hj hP hcv => by
      have tz : Twin z.left z.right := ruleErr_twin.1 hz
      have tm : Twin m.left m.right := ruleErr_twin.1 hs.good
      refine (cov_right (r := m.rule) hs.good hs.holes hj (P := Both nx.right ny.right n) (fun q hq => ⟨hq.2.1, hP q hq⟩) ⟨q0, hq0⟩).2 ?_
      have hcv2 : Cov ks (Both nx.right ny.right n) := hcv.mono (fun y hy => hy) sub
      have hcv3 := (cov_right hz (gErr_zero hzg).2.1 hk (P := Both nx.right ny.right n) (fun q hq => ⟨hq.2.1, hs.right hz hq.2.1 (hP q hq)⟩) ⟨q0, hq0⟩).1 hcv2
      obtain ⟨t1, t2, _, t4⟩ := tr_twin tm.turn hq0.2.1 (hP q0 hq0)
      refine hs.cov _ (fun l hl => ⟨hl.1, hl.2.1⟩) ⟨_, t2, t1, ?_⟩ (hcv3.mono (fun y hy => hy) fun l hl => ⟨hl.1, hs.left l hl.1 hl.2.1, ?_⟩)
      · show Both nx.right ny.right n (trL m.left m.right (trL m.right m.left q0))
        rw [t4]
        exact hq0
      · have e := hs.tr l hl.1 hl.2.1
        have hp : Both nx.right ny.right n (trL m.left m.right l) := hl.2.2
        rw [e] at hp
        exact hp
    rw [Cov.app] at hc ⊢
    rcases hc with hc | hc
    · exact .inl (one hx.1 hx.2 sx hk1 hj1 (fun q hq => hq.2.2.1) hc)
    · exact .inr (one hy.1 hy.2 sy hk2 hj2 (fun q hq => hq.2.2.2) hc)

/-! ### restricted -/
theorem putH_some {n : Rule} {hs : List Pat} {o : Option Ent} (h : putH n hs = some o) : (redL n.left hs).length ≤ 64 ∧ ((leastLen n.left (redL n.left hs) = 0 ∧ o = none) ∨ (leastLen n.left (redL n.left hs) ≠ 0 ∧ o = some ⟨n.left, n.right, redL n.left hs⟩)) := by
  unfold putH at h
  split at h
  · cases h
  · rename_i h1
    refine ⟨by omega, ?_⟩
    split at h
    · rename_i h2
      exact .inl ⟨h2, (Option.some.inj h).symm⟩
    · rename_i h2
      exact .inr ⟨h2, (Option.some.inj h).symm⟩
theorem put_sub {x : Ent} {g : Reg} {n : Rule} (hx : ruleErr x.rule = 0 ∧ gErr x.reg = 0) (hg : gErr g = 0) (hn : (narL x.rule g.b).1 = some n) : Sub x ⟨n.left, n.right, redL n.left (x.hs ++ g.hs)⟩ := by
  have hgood := narL_good hn
  obtain ⟨hr, hp, _, m, hm, rfl, h1, h2⟩ := narL_some hn
  obtain ⟨g1, g2, g3, g4⟩ := meetP_some hm
  refine ⟨ruleErr_twin.2 (ruleErr_twin.1 hgood), fun l hc hl => ?_, fun l hc hl => h2.tr hl, fun p hp => redL_good p hp, fun P hP h0 hc => ?_⟩
  · have : matchL m l = true := hl
    rw [meetL_match (allOk_of g1) (allOk_of g2) g3 hc, Bool.and_eq_true] at this
    exact this.1
  · refine (cov_red g4 (fun p hp => ?_) hP h0).2 (Cov.app.2 (.inl hc))
    rcases List.mem_append.1 hp with hp | hp
    · exact (gErr_zero hx.2).2.1 p hp
    · exact (gErr_zero hg).2.1 p hp
theorem resL_mem {g : Reg} : ∀ {m es : List Ent}, resL g m = some es → (∀ x ∈ m, (narL x.rule g.b).2 = 0 ∧ ∀ n, (narL x.rule g.b).1 = some n → ∃ o, putH n (x.hs ++ g.hs) = some o) ∧ es = m.filterMap (fun x => match (narL x.rule g.b).1 with | none => none | some n => (putH n (x.hs ++ g.hs)).getD none)
  | [], es, h => by
    obtain rfl := Option.some.inj h
    exact ⟨fun x hx => (by cases hx), rfl⟩
  | x :: m, es, h => by
    unfold resL at h
    split at h
    · cases h
    · rename_i h0
      have h0' : (narL x.rule g.b).2 = 0 := by simpa using h0
      rcases hn : (narL x.rule g.b).1 with _ | n
      · rw [hn] at h
        obtain ⟨h1, h2⟩ := resL_mem h
        refine ⟨fun y hy => ?_, ?_⟩
        · rcases List.mem_cons.1 hy with rfl | hy
          · exact ⟨h0', fun n hn' => by rw [hn] at hn'; cases hn'⟩
          · exact h1 y hy
        · rw [List.filterMap_cons, hn]
          exact h2
      · rw [hn] at h
        simp only at h
        rcases hp : putH n (x.hs ++ g.hs) with _ | o
        · rw [hp] at h; cases h
        · rw [hp] at h
          obtain ⟨l, hl, rfl⟩ := Option.map_eq_some_iff.1 h
          obtain ⟨h1, h2⟩ := resL_mem hl
          refine ⟨fun y hy => ?_, ?_⟩
          · rcases List.mem_cons.1 hy with rfl | hy
            · exact ⟨h0', fun n' hn' => by rw [hn] at hn'; cases hn'; exact ⟨o, hp⟩⟩
            · exact h1 y hy
          · rw [List.filterMap_cons, hn]
            simp only
            rw [hp]
            simp only [Option.getD_some]
            cases o with
            | none => exact h2
            | some e => simp [h2]
def resOf (g : Reg) (x : Ent) : Option Ent := match (narL x.rule g.b).1 with
  | none => none
  | some n => (putH n (x.hs ++ g.hs)).getD none
theorem resOf_mem {g : Reg} {x n : Ent} (hx : ruleErr x.rule = 0 ∧ gErr x.reg = 0) (hg : gErr g = 0) (h : resOf g x = some n) : Sub x n ∧ ruleErr n.rule = 0 ∧ gErr n.reg = 0 ∧ ∃ r, (narL x.rule g.b).1 = some r ∧ n = ⟨r.left, r.right, redL r.left (x.hs ++ g.hs)⟩ := by
  unfold resOf at h
  rcases hn : (narL x.rule g.b).1 with _ | r
  · rw [hn] at h; cases h
  · rw [hn] at h
    simp only at h
    rcases hp : putH r (x.hs ++ g.hs) with _ | o
    · rw [hp] at h; cases h
    · rw [hp] at h
      simp only [Option.getD_some] at h
      obtain ⟨h1, h2⟩ := putH_some hp
      rcases h2 with ⟨_, h3⟩ | ⟨_, h3⟩
      · rw [h3] at h; cases h
      · rw [h3] at h
        obtain rfl := Option.some.inj h
        have hs := put_sub hx hg hn
        exact ⟨hs, hs.good, gErr_of (ruleErr_twin.1 hs.good).lp hs.holes h1, r, rfl, rfl⟩
theorem res_map {m es : List Ent} {g : Reg} (h : Mapping m) (hg : gErr g = 0) (hr : resL g m = some es) : (mapE es).2 = 0 ∨ (mapE es).2 = 72 := by
  have he := (resL_mem hr).2
  have mem := fun n (hn : n ∈ es) => List.mem_filterMap.1 (he ▸ hn : n ∈ m.filterMap (resOf g))
  refine mapE_or (fun n hn => ?_) fun hrt => ?_
  · obtain ⟨x, hx, hi⟩ := mem n hn
    have := resOf_mem (h.good x hx) hg hi
    exact ⟨this.2.1, this.2.2.1⟩
  · have he2 : es = m.filterMap (resOf g) := he
    have hp : m.Pairwise fun y x => y ∈ m ∧ x ∈ m ∧ clashE x y = false := by
      have h1 := h.pairs
      rw [List.pairwise_iff_getElem] at h1 ⊢
      exact fun i j hi hj hij => ⟨List.getElem_mem hi, List.getElem_mem hj, h1 i j hi hj hij⟩
    have hq : (m.filterMap (resOf g)).Pairwise fun y x => (∃ g, rightG x = some g) → (∃ g, rightG y = some g) → clashE x y = false := by
      rw [List.pairwise_filterMap]
      refine hp.imp fun ⟨my, mx, hc⟩ ny iy nx ix rx ry => ?_
      exact sub_clash (h.good _ mx) (h.good _ my) (h.right _ mx) (h.right _ my) (resOf_mem (h.good _ mx) hg ix).1 (resOf_mem (h.good _ my) hg iy).1 rx ry hc
    rw [← he2] at hq
    rw [List.pairwise_iff_getElem] at hq ⊢
    exact fun i j hi hj hij => hq i j hi hj hij (hrt _ (List.getElem_mem hj)) (hrt _ (List.getElem_mem hi))
theorem res_has {g : Reg} {x : Ent} (hx : ruleErr x.rule = 0 ∧ gErr x.reg = 0) (hg : gErr g = 0) (h0 : (narL x.rule g.b).2 = 0) (hp : ∀ n, (narL x.rule g.b).1 = some n → ∃ o, putH n (x.hs ++ g.hs) = some o) {l : List Str} (hc : l.all comp = true) :
    (hasG x.reg l && hasG g l) = true ↔ ∃ n, resOf g x = some n ∧ hasG n.reg l = true := by
  have x2 : ∀ p ∈ x.hs, patErr p = 0 := (gErr_zero hx.2).2.1
  obtain ⟨g1, g2, _⟩ := gErr_zero hg
  have key : ∀ r, (narL x.rule g.b).1 = some r → hasL r.left (redL r.left (x.hs ++ g.hs)) l = (hasG x.reg l && hasG g l) := fun r hn => by
    obtain ⟨_, _, _, m, hm, rfl, _, _⟩ := narL_some hn
    obtain ⟨m1, m2, m3, m4⟩ := meetP_some hm
    show hasL m (redL m (x.hs ++ g.hs)) l = _
    rw [redL_has m4 (fun p hp => (List.mem_append.1 hp).elim (x2 p) (g2 p)) hc]
    unfold hasG hasL
    rw [meetL_match (allOk_of m1) (allOk_of m2) m3 hc, List.any_append]
    show (matchL x.left l && matchL g.b l && _) = (matchL x.left l && _ && (matchL g.b l && _))
    show (matchL x.left l && matchL g.b l && !((x.hs.any fun h => matchL h l) || (g.hs.any fun h => matchL h l))) = (matchL x.left l && !(x.hs.any fun h => matchL h l) && (matchL g.b l && !(g.hs.any fun h => matchL h l)))
    cases matchL x.left l <;> cases matchL g.b l <;> cases (x.hs.any fun h => matchL h l) <;> cases (g.hs.any fun h => matchL h l) <;> rfl
  constructor
  · intro h
    have hb := h
    rw [Bool.and_eq_true] at hb
    have hml : matchL x.left l = true := by
      have := hb.1
      unfold hasG hasL at this
      rw [Bool.and_eq_true] at this
      exact this.1
    have hmg : matchL g.b l = true := by
      have := hb.2
      unfold hasG hasL at this
      rw [Bool.and_eq_true] at this
      exact this.1
    rcases hn : (narL x.rule g.b).1 with _ | r
    · have := narL_none hx.1 g1 hn h0 hc hml
      rw [hmg] at this
      cases this
    · obtain ⟨o, ho⟩ := hp r hn
      have hk := key r hn
      rw [h] at hk
      have hne := (least_len (patErr_form (ruleErr_twin.1 (narL_good hn)).lp).1 hc hk).1
      obtain ⟨_, h2⟩ := putH_some ho
      rcases h2 with ⟨h3, _⟩ | ⟨_, h3⟩
      · exact absurd h3 hne
      · refine ⟨⟨r.left, r.right, redL r.left (x.hs ++ g.hs)⟩, ?_, hk⟩
        unfold resOf
        rw [hn]
        simp only
        rw [ho, h3]
        rfl
  · rintro ⟨n, hn, hh⟩
    obtain ⟨_, _, _, r, hr, rfl⟩ := resOf_mem hx hg hn
    rw [← key r hr]
    exact hh
theorem res_mean {m es : List Ent} {g : Reg} (h : Mapping m) (hg : gErr g = 0) (hr : resL g m = some es) (he : Mapping es) {s : Str} {l : List Str} (hs : pathOf s = some l) : fwdM es s = if hasG g l then fwdM m s else none := by
  obtain ⟨h1, h2⟩ := resL_mem hr
  have h2' : es = m.filterMap (resOf g) := h2
  have hc := (pathOf_some hs).2.1
  unfold fwdM
  rw [hs]
  simp only
  rcases hgl : hasG g l with _ | _
  · simp only [Bool.false_eq_true, if_false]
    have : es.find? (fun x => hasG x.reg l) = none := by
      rw [List.find?_eq_none]
      intro n hn
      rw [h2'] at hn
      obtain ⟨x, hx, hi⟩ := List.mem_filterMap.1 hn
      intro hh
      have := (res_has (h.good x hx) hg (h1 x hx).1 (h1 x hx).2 hc).2 ⟨n, hi, hh⟩
      rw [hgl, Bool.and_false] at this
      cases this
    rw [this]
    rfl
  · simp only [if_true]
    rcases hf : m.find? (fun x => hasG x.reg l) with _ | x
    · have : es.find? (fun x => hasG x.reg l) = none := by
        rw [List.find?_eq_none]
        intro n hn
        rw [h2'] at hn
        obtain ⟨x, hx, hi⟩ := List.mem_filterMap.1 hn
        intro hh
        have h3 := (res_has (h.good x hx) hg (h1 x hx).1 (h1 x hx).2 hc).2 ⟨n, hi, hh⟩
        rw [Bool.and_eq_true] at h3
        exact List.find?_eq_none.1 hf x hx h3.1
      rw [this, hf]
    · have hx := List.mem_of_find?_eq_some hf
      have hxp : hasG x.reg l = true := List.find?_some (p := fun x : Ent => hasG x.reg l) hf
      obtain ⟨n, hi, hh⟩ := (res_has (h.good x hx) hg (h1 x hx).1 (h1 x hx).2 hc).1 (by rw [hxp, hgl]; rfl)
      have hn : n ∈ es := by rw [h2']; exact List.mem_filterMap.2 ⟨x, hx, hi⟩
      rw [(he.left_apart hc).find hn hh, hf, Option.map_some, Option.map_some]
      have hs := (resOf_mem (h.good x hx) hg hi).1
      have hml : matchL n.left l = true := by
        unfold hasG hasL at hh
        rw [Bool.and_eq_true] at hh
        exact hh.1
      rw [hs.tr l hc hml]
end Go.Proofs.YtmfjppaeddbdaaaGreatDoor.Sy
