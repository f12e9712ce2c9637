/- What compositions mean; the other laws of mappings. No program in sight. -/
import Derived.Test.YteplgaabicminaaGreatDoorZMapC
set_option linter.unusedVariables false
set_option linter.unusedSimpArgs false
namespace Go.Proofs.YteplgaabicminaaGreatDoor.Sy

def comF (p : Ent × Ent) : Option Ent := (comOf p.1 p.2).getD none
theorem comL_mem : ∀ {ps : List (Ent × Ent)} {es : List Ent}, comL ps = some es → (∀ p ∈ ps, ∃ o, comOf p.1 p.2 = some o) ∧ es = ps.filterMap comF
  | [], es, h => by
    obtain rfl := Option.some.inj h
    exact ⟨fun p hp => (by cases hp), rfl⟩
  | p :: ps, es, h => by
    unfold comL at h
    rcases hc : comOf p.1 p.2 with _ | o
    · rw [hc] at h; cases h
    · rw [hc] at h
      obtain ⟨l, hl, rfl⟩ := Option.map_eq_some_iff.1 h
      obtain ⟨h1, h2⟩ := comL_mem hl
      refine ⟨fun q hq => ?_, ?_⟩
      · rcases List.mem_cons.1 hq with rfl | hq
        · exact ⟨o, hc⟩
        · exact h1 q hq
      · have hf : comF p = o := by unfold comF; rw [hc]; rfl
        rw [List.filterMap_cons, hf, ← h2]
        cases o <;> rfl
theorem comF_com {x y c : Ent} (hx : ruleErr x.rule = 0 ∧ gErr x.reg = 0) (hy : ruleErr y.rule = 0 ∧ gErr y.reg = 0) (h : comF (x, y) = some c) : Com x y c ∧ gErr c.reg = 0 ∧ ∃ r hs, (chainE x.rule y.rule).1 = some r ∧ backHs x.rule y.hs = some hs ∧ c = ⟨r.left, r.right, redL r.left (x.hs ++ hs)⟩ := by
  unfold comF at h
  rcases hc : comOf x y with _ | o
  · rw [show comOf (x, y).1 (x, y).2 = comOf x y from rfl, hc] at h; cases h
  · rw [show comOf (x, y).1 (x, y).2 = comOf x y from rfl, hc] at h
    exact com_of hx hy hc h
theorem com_key {x y : Ent} (hx : ruleErr x.rule = 0 ∧ gErr x.reg = 0) (hy : ruleErr y.rule = 0 ∧ gErr y.reg = 0) {r : Rule} {hs : List Pat} (hr : (chainE x.rule y.rule).1 = some r) (hb : backHs x.rule y.hs = some hs) {l : List Str} (hc : l.all comp = true) (hl : matchL x.left l = true) :
    hasL r.left (redL r.left (x.hs ++ hs)) l = (hasG x.reg l && hasG y.reg (trL x.left x.right l)) := by
  obtain ⟨c1, c2, _⟩ := chain_some hx.1 hy.1 hr
  have tx : Twin x.left x.right := ruleErr_twin.1 hx.1
  rw [backHs_eq hx.1] at hb
  have hre : ruleErr (⟨false, x.right, x.left⟩ : Rule) = 0 := ruleErr_twin.2 tx.turn
  obtain ⟨t1, t2, _, t4⟩ := tr_twin tx hc hl
  have hany := right_any (r := ⟨false, x.right, x.left⟩) hre (gErr_zero hy.2).2.1 hb t2 t1
  rw [show trL (⟨false, x.right, x.left⟩ : Rule).left (⟨false, x.right, x.left⟩ : Rule).right (trL x.left x.right l) = l from t4] at hany
  have hgood : ∀ p ∈ x.hs ++ hs, patErr p = 0 := fun p hp => by
    rcases List.mem_append.1 hp with hp | hp
    · exact (gErr_zero hx.2).2.1 p hp
    · exact (rightHs_good hb).1 p hp
  rw [redL_has (ruleErr_twin.1 c1).lp hgood hc]
  unfold hasG hasL
  rw [List.any_append]
  show (matchL r.left l && !((x.hs.any fun h => matchL h l) || (hs.any fun h => matchL h l))) = (matchL x.left l && !(x.hs.any fun h => matchL h l) && (matchL y.left (trL x.left x.right l) && !(y.hs.any fun h => matchL h (trL x.left x.right l))))
  have hm : matchL r.left l = (matchL x.left l && matchL y.left (trL x.left x.right l)) := by
    rw [Bool.eq_iff_iff, Bool.and_eq_true]
    exact c2 l hc
  rw [hm, hany]
  show (_ && !((x.hs.any fun h => matchL h l) || (y.hs.any fun h => matchL h (trL x.left x.right l)))) = _
  cases matchL x.left l <;> cases matchL y.left (trL x.left x.right l) <;> cases (x.hs.any fun h => matchL h l) <;> cases (y.hs.any fun h => matchL h (trL x.left x.right l)) <;> rfl
theorem com_has {x y : Ent} (hx : ruleErr x.rule = 0 ∧ gErr x.reg = 0) (hy : ruleErr y.rule = 0 ∧ gErr y.reg = 0) (hp : ∃ o, comOf x y = some o) {l : List Str} (hc : l.all comp = true) :
    (hasG x.reg l = true ∧ hasG y.reg (trL x.left x.right l) = true) ↔ ∃ c, comF (x, y) = some c ∧ hasG c.reg l = true := by
  constructor
  · rintro ⟨h1, h2⟩
    have hml : matchL x.left l = true := by
      unfold hasG hasL at h1
      rw [Bool.and_eq_true] at h1
      exact h1.1
    have hmy : matchL y.left (trL x.left x.right l) = true := by
      unfold hasG hasL at h2
      rw [Bool.and_eq_true] at h2
      exact h2.1
    have tx : Twin x.left x.right := ruleErr_twin.1 hx.1
    obtain ⟨t1, t2, _, _⟩ := tr_twin tx hc hml
    obtain ⟨o, ho⟩ := hp
    have ho' := ho
    unfold comOf at ho
    split at ho
    · cases ho
    · rename_i h0
      rcases hr : (chainE x.rule y.rule).1 with _ | r
      · exfalso
        unfold chainE at hr h0
        rw [if_neg (by simpa using hx.1), if_neg (by simpa using hy.1)] at hr h0
        rw [show x.rule.right = x.right from rfl, show y.rule.left = y.left from rfl] at hr h0
        rcases hm : meetP x.right y.left with _ | m
        · have h5 : meetL x.right y.left = none := by
            unfold meetP at hm
            rw [if_pos ⟨tx.rp, (gErr_zero hy.2).1⟩] at hm
            exact hm
          have := meetL_nomatch h5 t2
          rw [t1, hmy] at this
          cases this
        · rw [hm] at hr h0
          simp only at hr h0
          split at hr
          · rename_i h12
            rw [if_pos h12] at h0
            simp at h0
          · cases hr
      · rw [hr] at ho
        simp only at ho
        rcases hb : backHs x.rule y.hs with _ | hs
        · rw [hb] at ho; cases ho
        · rw [hb] at ho
          simp only at ho
          obtain ⟨_, h3⟩ := putH_some ho
          have hk := com_key hx hy hr hb hc hml
          rw [h1, h2] at hk
          have hne := (least_len (patErr_form (ruleErr_twin.1 (chain_some hx.1 hy.1 hr).1).lp).1 hc hk).1
          rcases h3 with ⟨h4, _⟩ | ⟨_, h4⟩
          · exact absurd h4 hne
          · refine ⟨⟨r.left, r.right, redL r.left (x.hs ++ hs)⟩, ?_, hk⟩
            show comF (x, y) = some ⟨r.left, r.right, redL r.left (x.hs ++ hs)⟩
            unfold comF
            rw [show comOf (x, y).1 (x, y).2 = comOf x y from rfl, ho', h4]
            rfl
  · rintro ⟨c, hf, hh⟩
    obtain ⟨hcom, _, r, hs, hr, hb, rfl⟩ := comF_com hx hy hf
    have hcl : matchL r.left l = true := by
      unfold hasG hasL at hh
      rw [Bool.and_eq_true] at hh
      exact hh.1
    have hml := ((hcom.left l hc).1 hcl).1
    have hk := com_key hx hy hr hb hc hml
    have hh' : hasL r.left (redL r.left (x.hs ++ hs)) l = true := hh
    rw [hk, Bool.and_eq_true] at hh'
    exact hh'
theorem clashE_comm (x y : Ent) : clashE x y = clashE y x := by
  unfold clashE
  rw [commonG_comm x.reg y.reg, commonG_comm (rG x) (rG y)]
theorem Mapping.or {m : List Ent} (h : Mapping m) {x y : Ent} (hx : x ∈ m) (hy : y ∈ m) : x = y ∨ clashE x y = false := by
  obtain ⟨i, hi, ex⟩ := List.mem_iff_getElem.1 hx
  obtain ⟨j, hj, ey⟩ := List.mem_iff_getElem.1 hy
  have e1 : m[i]? = some x := by rw [List.getElem?_eq_getElem hi, ex]
  have e2 : m[j]? = some y := by rw [List.getElem?_eq_getElem hj, ey]
  rcases Nat.lt_trichotomy i j with hlt | heq | hgt
  · rw [clashE_comm]
    exact .inr (h.apart j i y x e2 e1 hlt)
  · subst heq
    rw [e1] at e2
    exact .inl (Option.some.inj e2)
  · exact .inr (h.apart i j x y e1 e2 hgt)
def PairR (a b : List Ent) (q p : Ent × Ent) : Prop := p.1 ∈ a ∧ p.2 ∈ b ∧ q.1 ∈ a ∧ q.2 ∈ b ∧
  (commonG p.1.reg q.1.reg = false ∨ (p.1 = q.1 ∧ commonG p.2.reg q.2.reg = false)) ∧ (commonG (rG p.2) (rG q.2) = false ∨ (p.2 = q.2 ∧ commonG (rG p.1) (rG q.1) = false))
theorem pairs_apart {a b : List Ent} (ha : Mapping a) (hb : Mapping b) : (pairsL a b).Pairwise (PairR a b) := by
  unfold pairsL
  rw [List.pairwise_flatMap]
  have pa : a.Pairwise fun y x => y ∈ a ∧ x ∈ a ∧ clashE x y = false := by
    have h1 := ha.pairs
    rw [List.pairwise_iff_getElem] at h1 ⊢
    exact fun i j hi hj hij => ⟨List.getElem_mem hi, List.getElem_mem hj, h1 i j hi hj hij⟩
  have pb : b.Pairwise fun y x => y ∈ b ∧ x ∈ b ∧ clashE x y = false := by
    have h1 := hb.pairs
    rw [List.pairwise_iff_getElem] at h1 ⊢
    exact fun i j hi hj hij => ⟨List.getElem_mem hi, List.getElem_mem hj, h1 i j hi hj hij⟩
  constructor
  · intro x hx
    rw [List.pairwise_map]
    refine pb.imp fun {y' y} ⟨m1, m2, hc⟩ => ?_
    unfold clashE at hc
    rw [Bool.or_eq_false_iff] at hc
    exact ⟨hx, m2, hx, m1, .inr ⟨rfl, hc.1⟩, .inl hc.2⟩
  · refine pa.imp fun {x' x} ⟨m1, m2, hc⟩ p hp q hq => ?_
    obtain ⟨y', hy', rfl⟩ := List.mem_map.1 hp
    obtain ⟨y, hy, rfl⟩ := List.mem_map.1 hq
    unfold clashE at hc
    rw [Bool.or_eq_false_iff] at hc
    refine ⟨m2, hy, m1, hy', .inl hc.1, ?_⟩
    rcases hb.or hy hy' with e | e
    · exact .inr ⟨e, hc.2⟩
    · unfold clashE at e
      rw [Bool.or_eq_false_iff] at e
      exact .inl e.2
theorem pairs_mem {a b : List Ent} {p : Ent × Ent} (h : p ∈ pairsL a b) : p.1 ∈ a ∧ p.2 ∈ b := by
  unfold pairsL at h
  obtain ⟨x, hx, hp⟩ := List.mem_flatMap.1 h
  obtain ⟨y, hy, rfl⟩ := List.mem_map.1 hp
  exact ⟨hx, hy⟩
theorem com_map {a b es : List Ent} (ha : Mapping a) (hb : Mapping b) (h : comL (pairsL a b) = some es) : (mapE es).2 = 0 ∨ (mapE es).2 = 72 := by
  have he := (comL_mem h).2
  have mem := fun n (hn : n ∈ es) => List.mem_filterMap.1 (he ▸ hn : n ∈ (pairsL a b).filterMap comF)
  refine mapE_or (fun n hn => ?_) fun hrt => ?_
  · obtain ⟨⟨x, y⟩, hp, hi⟩ := mem n hn
    obtain ⟨hx, hy⟩ := pairs_mem hp
    have := comF_com (ha.good x hx) (hb.good y hy) hi
    exact ⟨this.1.good, this.2.1⟩
  · have hq : ((pairsL a b).filterMap comF).Pairwise fun y x => (∃ g, rightG x = some g) → (∃ g, rightG y = some g) → clashE x y = false := by
      rw [List.pairwise_filterMap]
      refine (pairs_apart ha hb).imp fun {q p} ⟨p1, p2, q1, q2, hl, hr⟩ nq iq np ip rp rq => ?_
      obtain ⟨x, y⟩ := p
      obtain ⟨x', y'⟩ := q
      exact com_clash (ha.good _ p1) (hb.good _ p2) (ha.good _ q1) (hb.good _ q2) (ha.right _ p1) (hb.right _ p2) (ha.right _ q1) (hb.right _ q2) rp rq (comF_com (ha.good _ p1) (hb.good _ p2) ip).1 (comF_com (ha.good _ q1) (hb.good _ q2) iq).1 hl hr
    rw [← he] at hq
    rw [List.pairwise_iff_getElem] at hq ⊢
    exact fun i j hi hj hij => hq i j hi hj hij (hrt _ (List.getElem_mem hj)) (hrt _ (List.getElem_mem hi))
theorem hasG_left {x : Ent} {l : List Str} (h : hasG x.reg l = true) : matchL x.left l = true := by
  unfold hasG hasL at h
  rw [Bool.and_eq_true] at h
  exact h.1
theorem fwdM_some {m : List Ent} {s t : Str} (h : fwdM m s = some t) : ∃ l x, pathOf s = some l ∧ x ∈ m ∧ hasG x.reg l = true ∧ m.find? (fun x => hasG x.reg l) = some x ∧ t = pathStr (trL x.left x.right l) := by
  unfold fwdM at h
  rcases hp : pathOf s with _ | l
  · rw [hp] at h; cases h
  · rw [hp] at h
    obtain ⟨x, hx, rfl⟩ := Option.map_eq_some_iff.1 h
    exact ⟨l, x, rfl, List.mem_of_find?_eq_some hx, List.find?_some (p := fun x : Ent => hasG x.reg l) hx, hx, rfl⟩
theorem com_mean {a b es : List Ent} (ha : Mapping a) (hb : Mapping b) (h : comL (pairsL a b) = some es) (he : Mapping es) (s : Str) : fwdM es s = (fwdM a s).bind (fwdM b) := by
  obtain ⟨h1, h2⟩ := comL_mem h
  have ex : ∀ u, (fwdM a s).bind (fwdM b) = some u → fwdM es s = some u := fun u hu => by
    obtain ⟨t, ht, hu⟩ := Option.bind_eq_some_iff.1 hu
    obtain ⟨l, x, hp, hx, hhx, _, rfl⟩ := fwdM_some ht
    have hc := (pathOf_some hp).2.1
    have tx : Twin x.left x.right := ruleErr_twin.1 (ha.good x hx).1
    obtain ⟨t1, t2, t3, _⟩ := tr_twin tx hc (hasG_left hhx)
    obtain ⟨q, y, hq, hy, hhy, _, rfl⟩ := fwdM_some hu
    rw [pathOf_str t3 t2] at hq
    obtain rfl := Option.some.inj hq
    have hpm : (x, y) ∈ pairsL a b := List.mem_flatMap.2 ⟨x, hx, List.mem_map.2 ⟨y, hy, rfl⟩⟩
    obtain ⟨c, hf, hh⟩ := (com_has (ha.good x hx) (hb.good y hy) (h1 _ hpm) hc).1 ⟨hhx, hhy⟩
    have hce : c ∈ es := by rw [h2]; exact List.mem_filterMap.2 ⟨_, hpm, hf⟩
    unfold fwdM
    rw [hp]
    simp only
    rw [(he.left_apart hc).find hce hh, Option.map_some, (comF_com (ha.good x hx) (hb.good y hy) hf).1.tr l hc (hasG_left hh)]
  have back : ∀ u, fwdM es s = some u → (fwdM a s).bind (fwdM b) ≠ none := fun u hu hn => by
    obtain ⟨l, c, hp, hc, hh, _, _⟩ := fwdM_some hu
    have hcc := (pathOf_some hp).2.1
    rw [h2] at hc
    obtain ⟨⟨x, y⟩, hpm, hf⟩ := List.mem_filterMap.1 hc
    obtain ⟨hx, hy⟩ := pairs_mem hpm
    obtain ⟨g1, g2⟩ := (com_has (ha.good x hx) (hb.good y hy) (h1 _ hpm) hcc).2 ⟨c, hf, hh⟩
    have tx : Twin x.left x.right := ruleErr_twin.1 (ha.good x hx).1
    obtain ⟨t1, t2, t3, _⟩ := tr_twin tx hcc (hasG_left g1)
    have e1 : fwdM a s = some (pathStr (trL x.left x.right l)) := by
      unfold fwdM
      rw [hp]
      simp only
      rw [(ha.left_apart hcc).find hx g1]
      rfl
    have e2 : fwdM b (pathStr (trL x.left x.right l)) = some (pathStr (trL y.left y.right (trL x.left x.right l))) := by
      unfold fwdM
      rw [pathOf_str t3 t2]
      simp only
      rw [(hb.left_apart t2).find hy g2]
      rfl
    rw [e1, Option.bind_some, e2] at hn
    cases hn
  rcases hr : (fwdM a s).bind (fwdM b) with _ | u
  · rcases hl : fwdM es s with _ | v
    · rfl
    · exact absurd hr (back v hl)
  · exact ex u hr
theorem com_bwd {a b es : List Ent} (ha : Mapping a) (hb : Mapping b) (h : comL (pairsL a b) = some es) (he : Mapping es) (s : Str) : bwdM es s = (bwdM b s).bind (bwdM a) := by
  have hm := fun s => com_mean ha hb h he s
  rcases h1 : bwdM es s with _ | t
  · rcases h2 : (bwdM b s).bind (bwdM a) with _ | t
    · rfl
    · obtain ⟨u, hu, ht⟩ := Option.bind_eq_some_iff.1 h2
      have e1 := bwd_fwd hb hu
      have e2 := bwd_fwd ha ht
      have e3 : fwdM es t = some s := by rw [hm, e2, Option.bind_some, e1]
      rw [fwd_bwd he e3] at h1
      cases h1
  · have e1 := bwd_fwd he h1
    rw [hm] at e1
    obtain ⟨u, hu, hs⟩ := Option.bind_eq_some_iff.1 e1
    rw [fwd_bwd hb hs, Option.bind_some, fwd_bwd ha hu]
end Go.Proofs.YteplgaabicminaaGreatDoor.Sy
