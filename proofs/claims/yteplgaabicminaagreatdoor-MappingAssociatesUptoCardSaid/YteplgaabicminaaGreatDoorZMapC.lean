/- The composition of two mappings. No program in sight. -/
import Derived.Test.YteplgaabicminaaGreatDoorZPutA
set_option linter.unusedVariables false
set_option linter.unusedSimpArgs false
namespace Go.Proofs.YteplgaabicminaaGreatDoor.Sy
theorem tr_comp {p q r : Pat} {l : List Str} (h : Twin p q) (hqr : q.rest = r.rest) (hc : l.all comp = true) (hm : matchL p l = true) : trL q r (trL p q l) = trL p r l := by
  rw [matchL_mR, Bool.and_eq_true] at hm
  obtain ⟨hr, hm⟩ := hm
  have hle := reaches_le hr
  have hcap : capsTo p l p.parts.length = capsR p.parts l := capsTo_capsR p.rest p.parts l hle
  have hcl : (capsR p.parts l).length = (q.parts.filter isStar).length := (capsR_len _ _ hm).trans h.sn
  have hcc := capsR_comp _ _ hm hc
  obtain ⟨f1, f2⟩ := fill_mR q.parts (capsR p.parts l) (if q.rest then l.drop p.parts.length else []) hcl hcc
  have f4 := fillR_len q.parts (capsR p.parts l)
  have htr : trL p q l = fillR q.parts (capsR p.parts l) ++ (if q.rest then l.drop p.parts.length else []) := by rw [trL, hcap]
  rw [htr, trL, show capsTo q (fillR q.parts (capsR p.parts l) ++ (if q.rest then l.drop p.parts.length else [])) q.parts.length = capsR q.parts (fillR q.parts (capsR p.parts l) ++ (if q.rest then l.drop p.parts.length else [])) from capsTo_capsR q.rest q.parts _ (by rw [List.length_append, f4]; omega), f2, trL, hcap]
  congr 1
  have hd : (fillR q.parts (capsR p.parts l) ++ (if q.rest then l.drop p.parts.length else [])).drop q.parts.length = (if q.rest then l.drop p.parts.length else []) := by
    rw [← f4, List.drop_left']
    rfl
  rw [hd, ← hqr]
  rcases q.rest with _ | _ <;> rfl
theorem tr_length {p q : Pat} {l : List Str} (h : Twin p q) (hm : matchL p l = true) : (trL p q l).length + p.parts.length = q.parts.length + l.length := by
  rw [matchL_mR, Bool.and_eq_true] at hm
  obtain ⟨hr, hm⟩ := hm
  have hle := reaches_le hr
  have hcap : capsTo p l p.parts.length = capsR p.parts l := capsTo_capsR p.rest p.parts l hle
  rw [trL, hcap, List.length_append, fillR_len]
  unfold reaches at hr
  rcases hq : q.rest with _ | _
  · rw [h.rs, hq] at hr
    simp only [Bool.false_eq_true, if_false, List.length_nil] at hr ⊢
    have := beq_iff_eq.1 hr
    omega
  · simp only [if_true, List.length_drop]
    omega
def chainE (x y : Rule) : Option Rule × Int :=
  if ruleErr x ≠ 0 then (none, ruleErr x) else if ruleErr y ≠ 0 then (none, ruleErr y) else match meetP x.right y.left with
    | none => (none, 0)
    | some m => if 12 < (carryP x.right x.left m).parts.length ∨ 12 < (carryP y.left y.right m).parts.length then (none, 43) else (some ⟨false, carryP x.right x.left m, carryP y.left y.right m⟩, 0)
def backHs (r : Rule) : List Pat → Option (List Pat)
  | [] => some []
  | h :: hs => if (narR r h).2 ≠ 0 then none else (backHs r hs).map fun l => ((narR r h).1.map (·.left)).toList ++ l
theorem backHs_eq {r : Rule} (hr : ruleErr r = 0) : ∀ hs : List Pat, backHs r hs = rightHs ⟨false, r.right, r.left⟩ hs
  | [] => rfl
  | h :: hs => by
    have ih := backHs_eq hr hs
    have hn : narR r h = ((narL ⟨false, r.right, r.left⟩ h).1.map Rule.turn, (narL ⟨false, r.right, r.left⟩ h).2) := by
      unfold narR
      rw [if_neg (by simpa using hr)]
    unfold backHs rightHs
    rw [ih, hn]
    rcases narL ⟨false, r.right, r.left⟩ h with ⟨o, e⟩
    simp only
    by_cases he : e ≠ 0
    · rw [if_pos he, if_pos he]
    · rw [if_neg he, if_neg he]
      congr 1
      funext l
      cases o <;> rfl
def comOf (x y : Ent) : Option (Option Ent) := if (chainE x.rule y.rule).2 ≠ 0 then none else match (chainE x.rule y.rule).1 with
  | none => some none
  | some c => match backHs x.rule y.hs with
    | none => none
    | some hs => putH c (x.hs ++ hs)
def comL : List (Ent × Ent) → Option (List Ent)
  | [] => some []
  | p :: ps => match comOf p.1 p.2 with
    | none => none
    | some o => (comL ps).map (o.toList ++ ·)
def pairsL (a b : List Ent) : List (Ent × Ent) := a.flatMap fun x => b.map fun y => (x, y)
def comE (a b : List Ent) : List Ent × Int := if (mapE a).2 ≠ 0 then ([], (mapE a).2) else if (mapE b).2 ≠ 0 then ([], (mapE b).2) else match comL (pairsL a b) with
  | none => ([], 72)
  | some es => if 32 < es.length then ([], 72) else (es, 0)
structure Com (x y c : Ent) : Prop where
  good : ruleErr c.rule = 0
  holes : ∀ p ∈ c.hs, patErr p = 0
  left : ∀ l : List Str, l.all comp = true → (matchL c.left l = true ↔ matchL x.left l = true ∧ matchL y.left (trL x.left x.right l) = true)
  tr : ∀ l : List Str, l.all comp = true → matchL c.left l = true → trL c.left c.right l = trL y.left y.right (trL x.left x.right l)
  covx : ∀ P : List Str → Prop, (∀ l, P l → l.all comp = true ∧ matchL c.left l = true) → (∃ l, P l) → Cov x.hs P → Cov c.hs P
  covy : ∀ P : List Str → Prop, (∀ l, P l → l.all comp = true ∧ matchL c.left l = true) → (∃ l, P l) → Cov y.hs (fun q => ∃ l, P l ∧ q = trL x.left x.right l) → Cov c.hs P
theorem chain_some {x y : Ent} (hx : ruleErr x.rule = 0) (hy : ruleErr y.rule = 0) {c : Rule} (h : (chainE x.rule y.rule).1 = some c) : ruleErr c = 0 ∧
    (∀ l : List Str, l.all comp = true → (matchL c.left l = true ↔ matchL x.left l = true ∧ matchL y.left (trL x.left x.right l) = true)) ∧
    (∀ l : List Str, l.all comp = true → matchL c.left l = true → trL c.left c.right l = trL y.left y.right (trL x.left x.right l)) := by
  have tx : Twin x.left x.right := ruleErr_twin.1 hx
  have ty : Twin y.left y.right := ruleErr_twin.1 hy
  unfold chainE at h
  rw [if_neg (by simpa using hx), if_neg (by simpa using hy)] at h
  rw [show x.rule.right = x.right from rfl, show y.rule.left = y.left from rfl, show x.rule.left = x.left from rfl, show y.rule.right = y.right from rfl] at h
  rcases hm : meetP x.right y.left with _ | m
  · rw [hm] at h; cases h
  · rw [hm] at h
    simp only at h
    split at h
    · cases h
    · rename_i h12
      obtain rfl := Option.some.inj h
      obtain ⟨g1, g2, g3, g4⟩ := meetP_some hm
      have hin := meetL_in (allOk_of g1) (allOk_of g2) g3
      have hmm := fun (q : List Str) (hq : q.all comp = true) => meetL_match (allOk_of g1) (allOk_of g2) g3 hq
      have hl1 : (carryP x.right x.left m).parts.length ≤ 12 := by omega
      have hl2 : (carryP y.left y.right m).parts.length ≤ 12 := by omega
      have i0 : Inner x.right x.left m := ⟨tx.turn, g4, hin.1⟩
      have i1 : Inner x.left x.right (carryP x.right x.left m) := i0.turn hl1
      have hb : carryP x.left x.right (carryP x.right x.left m) = m := i0.back
      have i2 : Inner y.left y.right m := ⟨ty, g4, hin.2⟩
      have hml : m.parts.length ≤ 12 := (patErr_iff.1 g4).2.2.1
      have t1 : Twin (carryP x.right x.left m) m := by
        have := i1.twin (by rw [hb]; exact hml)
        rw [hb] at this
        exact this
      have t2 : Twin m (carryP y.left y.right m) := i2.twin hl2
      have hleft : ∀ l : List Str, l.all comp = true → (matchL (carryP x.right x.left m) l = true ↔ matchL x.left l = true ∧ matchL y.left (trL x.left x.right l) = true) := fun l hc => by
        constructor
        · intro hl
          have hxl : matchL x.left l = true := insideP_match (allOk_of i1.good) i1.inn hc hl
          have h3 := i1.match_iff (by rw [hb]; exact hml) hc hxl
          rw [hb, hl, hmm _ (tr_twin tx hc hxl).2.1, Bool.and_eq_true] at h3
          exact ⟨hxl, h3.2⟩
        · rintro ⟨hxl, hyl⟩
          have h3 := i1.match_iff (by rw [hb]; exact hml) hc hxl
          obtain ⟨r1, r2, _⟩ := tr_twin tx hc hxl
          rw [hb, hmm _ r2, r1, hyl] at h3
          exact h3.symm
      refine ⟨ruleErr_twin.2 ⟨t1.lp, t2.rp, t1.sn.trans t2.sn, t1.rs.trans t2.rs⟩, hleft, fun l hc hl => ?_⟩
      show trL (carryP x.right x.left m) (carryP y.left y.right m) l = _
      have hl' : matchL (carryP x.right x.left m) l = true := hl
      have hxl := ((hleft l hc).1 hl').1
      have e1 := i1.tr hl'
      rw [hb] at e1
      have hq := (tr_twin t1 hc hl').1
      have hqc := (tr_twin t1 hc hl').2.1
      rw [← tr_comp t1 t2.rs hc hl', i2.tr hq, e1]
theorem com_of {x y : Ent} (hx : ruleErr x.rule = 0 ∧ gErr x.reg = 0) (hy : ruleErr y.rule = 0 ∧ gErr y.reg = 0) {o : Option Ent} {c : Ent} (h : comOf x y = some o) (ho : o = some c) : Com x y c ∧ gErr c.reg = 0 ∧ ∃ r hs, (chainE x.rule y.rule).1 = some r ∧ backHs x.rule y.hs = some hs ∧ c = ⟨r.left, r.right, redL r.left (x.hs ++ hs)⟩ := by
  subst ho
  unfold comOf at h
  split at h
  · cases h
  · rcases hr : (chainE x.rule y.rule).1 with _ | r
    · rw [hr] at h
      cases h
    · rw [hr] at h
      simp only at h
      rcases hb : backHs x.rule y.hs with _ | hs
      · rw [hb] at h; cases h
      · rw [hb] at h
        simp only at h
        obtain ⟨hlen, h2⟩ := putH_some h
        rcases h2 with ⟨_, h3⟩ | ⟨_, h3⟩
        · cases h3
        · obtain rfl := Option.some.inj h3
          obtain ⟨c1, c2, c3⟩ := chain_some hx.1 hy.1 hr
          have tx : Twin x.left x.right := ruleErr_twin.1 hx.1
          have hb' := hb
          rw [backHs_eq hx.1] at hb'
          have hre : ruleErr (⟨false, x.right, x.left⟩ : Rule) = 0 := ruleErr_twin.2 tx.turn
          have hgood : ∀ p ∈ x.hs ++ hs, patErr p = 0 := fun p hp => by
            rcases List.mem_append.1 hp with hp | hp
            · exact (gErr_zero hx.2).2.1 p hp
            · exact (rightHs_good hb').1 p hp
          have hbase : patErr r.left = 0 := (ruleErr_twin.1 c1).lp
          refine ⟨⟨ruleErr_twin.2 (ruleErr_twin.1 c1), fun p hp => redL_good p hp, c2, c3, fun P hP h0 hc => ?_, fun P hP h0 hc => ?_⟩, gErr_of hbase (fun p hp => redL_good p hp) hlen, r, hs, rfl, rfl, rfl⟩
          · exact (cov_red hbase hgood hP h0).2 (Cov.app.2 (.inl hc))
          · refine (cov_red hbase hgood hP h0).2 (Cov.app.2 (.inr ?_))
            refine (cov_right (r := ⟨false, x.right, x.left⟩) hre (gErr_zero hy.2).2.1 hb' (P := P) (fun l hl => ⟨(hP l hl).1, ((c2 l (hP l hl).1).1 (hP l hl).2).1⟩) h0).2 ?_
            refine hc.mono (fun z hz => hz) fun q ⟨hqc, hq, hp⟩ => ⟨_, hp, ?_⟩
            exact (tr_twin tx.turn hqc hq).2.2.2.symm
theorem com_right {x y c : Ent} (h : Com x y c) (hx : ruleErr x.rule = 0) (hy : ruleErr y.rule = 0) {q : List Str} (hc : q.all comp = true) (hq : matchL c.right q = true) : ∃ l, l.all comp = true ∧ matchL c.left l = true ∧ trL c.left c.right l = q ∧ trL x.left x.right l = trL y.right y.left q ∧ matchL y.right q = true ∧ matchL x.right (trL y.right y.left q) = true ∧ matchL y.left (trL y.right y.left q) = true ∧ (trL y.right y.left q).all comp = true := by
  have tx : Twin x.left x.right := ruleErr_twin.1 hx
  have ty : Twin y.left y.right := ruleErr_twin.1 hy
  have tc : Twin c.left c.right := ruleErr_twin.1 h.good
  obtain ⟨t1, t2, _, t4⟩ := tr_twin tc.turn hc hq
  obtain ⟨l1, l2⟩ := (h.left _ t2).1 t1
  obtain ⟨a1, a2, _, _⟩ := tr_twin tx t2 l1
  obtain ⟨b1, b2, _, b4⟩ := tr_twin ty a2 l2
  have e := h.tr _ t2 t1
  rw [t4] at e
  rw [← e] at b1 b4
  exact ⟨_, t2, t1, t4, b4.symm, b1, by rw [b4]; exact a1, by rw [b4]; exact l2, by rw [b4]; exact a2⟩
theorem com_clash {x y c x' y' c' : Ent} (hx : ruleErr x.rule = 0 ∧ gErr x.reg = 0) (hy : ruleErr y.rule = 0 ∧ gErr y.reg = 0) (hx' : ruleErr x'.rule = 0 ∧ gErr x'.reg = 0) (hy' : ruleErr y'.rule = 0 ∧ gErr y'.reg = 0)
    (rx : ∃ g, rightG x = some g) (ry : ∃ g, rightG y = some g) (rx' : ∃ g, rightG x' = some g) (ry' : ∃ g, rightG y' = some g) (kc : ∃ g, rightG c = some g) (kc' : ∃ g, rightG c' = some g) (h : Com x y c) (h' : Com x' y' c')
    (hl : commonG x.reg x'.reg = false ∨ (x = x' ∧ commonG y.reg y'.reg = false)) (hr : commonG (rG y) (rG y') = false ∨ (y = y' ∧ commonG (rG x) (rG x') = false)) : clashE c c' = false := by
  have tx : Twin x.left x.right := ruleErr_twin.1 hx.1
  have ty : Twin y.left y.right := ruleErr_twin.1 hy.1
  have tx' : Twin x'.left x'.right := ruleErr_twin.1 hx'.1
  have ty' : Twin y'.left y'.right := ruleErr_twin.1 hy'.1
  have tc : Twin c.left c.right := ruleErr_twin.1 h.good
  have tc' : Twin c'.left c'.right := ruleErr_twin.1 h'.good
  unfold clashE
  rw [Bool.or_eq_false_iff]
  refine ⟨?_, ?_⟩
  · refine (commonG_false (a := c.reg) (b := c'.reg) tc.lp tc'.lp).2 fun n hn => ?_
    obtain ⟨l0, hl0⟩ := hn
    show Cov (c.hs ++ c'.hs) (Both c.left c'.left n)
    have hP : ∀ l, Both c.left c'.left n l → l.all comp = true ∧ matchL c.left l = true := fun l hl => ⟨hl.2.1, hl.2.2.1⟩
    have hP' : ∀ l, Both c.left c'.left n l → l.all comp = true ∧ matchL c'.left l = true := fun l hl => ⟨hl.2.1, hl.2.2.2⟩
    rcases hl with hl | ⟨rfl, hl⟩
    · have sub : ∀ l, Both c.left c'.left n l → Both x.left x'.left n l := fun l hl => ⟨hl.1, hl.2.1, ((h.left l hl.2.1).1 hl.2.2.1).1, ((h'.left l hl.2.1).1 hl.2.2.2).1⟩
      have hc := (commonG_false (a := x.reg) (b := x'.reg) tx.lp tx'.lp).1 hl n ⟨l0, sub l0 hl0⟩
      rw [Cov.app] at hc ⊢
      rcases hc with hc | hc
      · exact .inl (h.covx _ hP ⟨l0, hl0⟩ (hc.mono (fun z hz => hz) sub))
      · exact .inr (h'.covx _ hP' ⟨l0, hl0⟩ (hc.mono (fun z hz => hz) sub))
    · have img : ∀ l, Both c.left c'.left n l → Both y.left y'.left (trL x.left x.right l0).length (trL x.left x.right l) := fun l hl => by
        obtain ⟨a1, a2⟩ := (h.left l hl.2.1).1 hl.2.2.1
        obtain ⟨b1, b2⟩ := (h.left l0 hl0.2.1).1 hl0.2.2.1
        have e1 := tr_length tx a1
        have e2 := tr_length tx b1
        have e3 := hl.1
        have e4 := hl0.1
        exact ⟨by omega, (tr_twin tx hl.2.1 a1).2.1, a2, ((h'.left l hl.2.1).1 hl.2.2.2).2⟩
      have hc := (commonG_false (a := y.reg) (b := y'.reg) ty.lp ty'.lp).1 hl _ ⟨_, img l0 hl0⟩
      rw [Cov.app] at hc ⊢
      rcases hc with hc | hc
      · exact .inl (h.covy _ hP ⟨l0, hl0⟩ (hc.mono (fun z hz => hz) (fun q ⟨l, hl, e⟩ => e ▸ img l hl)))
      · exact .inr (h'.covy _ hP' ⟨l0, hl0⟩ (hc.mono (fun z hz => hz) (fun q ⟨l, hl, e⟩ => e ▸ img l hl)))
  · obtain ⟨gc, hgc⟩ := kc
    obtain ⟨gc', hgc'⟩ := kc'
    rw [(rG_some hgc).1, (rG_some hgc').1]
    obtain ⟨j1, hj1, rfl⟩ := Option.map_eq_some_iff.1 hgc
    obtain ⟨j2, hj2, rfl⟩ := Option.map_eq_some_iff.1 hgc'
    refine (commonG_false (a := ⟨c.right, j1⟩) (b := ⟨c'.right, j2⟩) tc.rp tc'.rp).2 fun n hn => ?_
    obtain ⟨q0, hq0⟩ := hn
    show Cov (j1 ++ j2) (Both c.right c'.right n)
    -- from the left paths of a composed entry to its right ones
    have lift : ∀ {z : Ent} {js : List Pat}, ruleErr z.rule = 0 → (∀ p ∈ z.hs, patErr p = 0) → rightHs z.rule z.hs = some js → (∀ q, Both c.right c'.right n q → matchL z.right q = true) → Cov z.hs (fun l => l.all comp = true ∧ matchL z.left l = true ∧ Both c.right c'.right n (trL z.left z.right l)) → Cov js (Both c.right c'.right n) := fun {z js} hz hh hj hP hcv =>
      (cov_right hz hh hj (P := Both c.right c'.right n) (fun q hq => ⟨hq.2.1, hP q hq⟩) ⟨q0, hq0⟩).2 hcv
    have ne1 : ∃ l, l.all comp = true ∧ matchL c.left l = true ∧ Both c.right c'.right n (trL c.left c.right l) := by
      obtain ⟨t1, t2, _, t4⟩ := tr_twin tc.turn hq0.2.1 hq0.2.2.1
      exact ⟨_, t2, t1, by rw [t4]; exact hq0⟩
    have ne2 : ∃ l, l.all comp = true ∧ matchL c'.left l = true ∧ Both c.right c'.right n (trL c'.left c'.right l) := by
      obtain ⟨t1, t2, _, t4⟩ := tr_twin tc'.turn hq0.2.1 hq0.2.2.2
      exact ⟨_, t2, t1, by rw [t4]; exact hq0⟩
    rcases hr with hr | ⟨rfl, hr⟩
    · obtain ⟨gy, hgy⟩ := ry
      obtain ⟨gy', hgy'⟩ := ry'
      rw [(rG_some hgy).1, (rG_some hgy').1] at hr
      obtain ⟨k1, hk1, rfl⟩ := Option.map_eq_some_iff.1 hgy
      obtain ⟨k2, hk2, rfl⟩ := Option.map_eq_some_iff.1 hgy'
      have s1 : ∀ q, Both c.right c'.right n q → matchL y.right q = true := fun q hq => by
        obtain ⟨_, _, _, _, _, e, _⟩ := com_right h hx.1 hy.1 hq.2.1 hq.2.2.1
        exact e
      have s2 : ∀ q, Both c.right c'.right n q → matchL y'.right q = true := fun q hq => by
        obtain ⟨_, _, _, _, _, e, _⟩ := com_right h' hx'.1 hy'.1 hq.2.1 hq.2.2.2
        exact e
      have hc := (commonG_false (a := ⟨y.right, k1⟩) (b := ⟨y'.right, k2⟩) ty.rp ty'.rp).1 hr n ⟨q0, hq0.1, hq0.2.1, s1 q0 hq0, s2 q0 hq0⟩
      rw [Cov.app] at hc ⊢
      rcases hc with hc | hc
      · have h1 : Cov k1 (Both c.right c'.right n) := hc.mono (fun z hz => hz) (fun q hq => ⟨hq.1, hq.2.1, s1 q hq, s2 q hq⟩)
        have h2 := (cov_right hy.1 (gErr_zero hy.2).2.1 hk1 (P := Both c.right c'.right n) (fun q hq => ⟨hq.2.1, s1 q hq⟩) ⟨q0, hq0⟩).1 h1
        refine .inl (lift h.good h.holes hj1 (fun q hq => hq.2.2.1) (h.covy _ (fun l hl => ⟨hl.1, hl.2.1⟩) ne1 (h2.mono (fun z hz => hz) ?_)))
        rintro q ⟨l, ⟨a1, a2, a3⟩, rfl⟩
        obtain ⟨b1, b2⟩ := (h.left l a1).1 a2
        rw [h.tr l a1 a2] at a3
        exact ⟨(tr_twin tx a1 b1).2.1, b2, a3⟩
      · have h1 : Cov k2 (Both c.right c'.right n) := hc.mono (fun z hz => hz) (fun q hq => ⟨hq.1, hq.2.1, s1 q hq, s2 q hq⟩)
        have h2 := (cov_right hy'.1 (gErr_zero hy'.2).2.1 hk2 (P := Both c.right c'.right n) (fun q hq => ⟨hq.2.1, s2 q hq⟩) ⟨q0, hq0⟩).1 h1
        refine .inr (lift h'.good h'.holes hj2 (fun q hq => hq.2.2.2) (h'.covy _ (fun l hl => ⟨hl.1, hl.2.1⟩) ne2 (h2.mono (fun z hz => hz) ?_)))
        rintro q ⟨l, ⟨a1, a2, a3⟩, rfl⟩
        obtain ⟨b1, b2⟩ := (h'.left l a1).1 a2
        rw [h'.tr l a1 a2] at a3
        exact ⟨(tr_twin tx' a1 b1).2.1, b2, a3⟩
    · obtain ⟨gx, hgx⟩ := rx
      obtain ⟨gx', hgx'⟩ := rx'
      rw [(rG_some hgx).1, (rG_some hgx').1] at hr
      obtain ⟨k1, hk1, rfl⟩ := Option.map_eq_some_iff.1 hgx
      obtain ⟨k2, hk2, rfl⟩ := Option.map_eq_some_iff.1 hgx'
      have img : ∀ q, Both c.right c'.right n q → Both x.right x'.right (trL y.right y.left q0).length (trL y.right y.left q) := fun q hq => by
        obtain ⟨_, _, _, _, _, e1, e2, _, e4⟩ := com_right h hx.1 hy.1 hq.2.1 hq.2.2.1
        obtain ⟨_, _, _, _, _, _, f2, _, _⟩ := com_right h' hx'.1 hy.1 hq.2.1 hq.2.2.2
        obtain ⟨_, _, _, _, _, g1, _⟩ := com_right h hx.1 hy.1 hq0.2.1 hq0.2.2.1
        have l1 := tr_length ty.turn e1
        have l2 := tr_length ty.turn g1
        have l3 := hq.1
        have l4 := hq0.1
        exact ⟨by omega, e4, e2, f2⟩
      have hc := (commonG_false (a := ⟨x.right, k1⟩) (b := ⟨x'.right, k2⟩) tx.rp tx'.rp).1 hr _ ⟨_, img q0 hq0⟩
      have R0 : ∃ r, ∃ q, Both c.right c'.right n q ∧ r = trL y.right y.left q := ⟨_, q0, hq0, rfl⟩
      rw [Cov.app] at hc ⊢
      rcases hc with hc | hc
      · have h1 : Cov k1 (fun r => ∃ q, Both c.right c'.right n q ∧ r = trL y.right y.left q) := hc.mono (fun z hz => hz) (fun r ⟨q, hq, e⟩ => e ▸ img q hq)
        have h2 := (cov_right hx.1 (gErr_zero hx.2).2.1 hk1 (P := fun r => ∃ q, Both c.right c'.right n q ∧ r = trL y.right y.left q) (fun r ⟨q, hq, e⟩ => by rw [e]; exact ⟨(img q hq).2.1, (img q hq).2.2.1⟩) R0).1 h1
        refine .inl (lift h.good h.holes hj1 (fun q hq => hq.2.2.1) (h.covx _ (fun l hl => ⟨hl.1, hl.2.1⟩) ne1 (h2.mono (fun z hz => hz) ?_)))
        rintro l ⟨a1, a2, a3⟩
        obtain ⟨b1, b2⟩ := (h.left l a1).1 a2
        obtain ⟨_, s2, _, _⟩ := tr_twin tx a1 b1
        exact ⟨a1, b1, _, a3, by
          show trL x.left x.right l = _
          rw [h.tr l a1 a2, (tr_twin ty s2 b2).2.2.2]⟩
      · have h1 : Cov k2 (fun r => ∃ q, Both c.right c'.right n q ∧ r = trL y.right y.left q) := hc.mono (fun z hz => hz) (fun r ⟨q, hq, e⟩ => e ▸ img q hq)
        have h2 := (cov_right hx'.1 (gErr_zero hx'.2).2.1 hk2 (P := fun r => ∃ q, Both c.right c'.right n q ∧ r = trL y.right y.left q) (fun r ⟨q, hq, e⟩ => by rw [e]; exact ⟨(img q hq).2.1, (img q hq).2.2.2⟩) R0).1 h1
        refine .inr (lift h'.good h'.holes hj2 (fun q hq => hq.2.2.2) (h'.covx _ (fun l hl => ⟨hl.1, hl.2.1⟩) ne2 (h2.mono (fun z hz => hz) ?_)))
        rintro l ⟨a1, a2, a3⟩
        obtain ⟨b1, b2⟩ := (h'.left l a1).1 a2
        obtain ⟨_, s2, _, _⟩ := tr_twin tx' a1 b1
        exact ⟨a1, b1, _, a3, by
          show trL x'.left x'.right l = _
          rw [h'.tr l a1 a2, (tr_twin ty s2 b2).2.2.2]⟩
end Go.Proofs.YteplgaabicminaaGreatDoor.Sy
