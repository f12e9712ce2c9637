/- The domain of a mapping; the overlap of two. No program in sight. -/
import Derived.Test.YtdcdabbepnahnaaGreatDoorZMapV
set_option linter.unusedVariables false
set_option linter.unusedSimpArgs false
namespace Go.Proofs.YtdcdabbepnahnaaGreatDoor.Sy
def putH (n : Rule) (hs : List Pat) : Option (Option Ent):=
 if 64 < (redL n.left hs).length then none else if leastLen n.left (redL n.left hs) = 0 then some none else some (some ⟨n.left,n.right,redL n.left hs⟩)
/-! ### restricted -/
theorem putH_some {n : Rule} {hs : List Pat} {o : Option Ent} (h : putH n hs = some o) : (redL n.left hs).length ≤ 64 ∧ ((leastLen n.left (redL n.left hs) = 0 ∧ o = none) ∨ (leastLen n.left (redL n.left hs) ≠ 0 ∧ o = some ⟨n.left,n.right,redL n.left hs⟩)):=by
 unfold putH at h
 split at h
 ·cases h
 ·rename_i h1
  refine ⟨by omega,?_⟩
  split at h
  ·rename_i h2
   exact .inl ⟨h2,(Option.some.inj h).symm⟩
  ·rename_i h2
   exact .inr ⟨h2,(Option.some.inj h).symm⟩
end Go.Proofs.YtdcdabbepnahnaaGreatDoor.Sy
set_option linter.unusedVariables false
set_option linter.unusedSimpArgs false
namespace Go.Proofs.YtdcdabbepnahnaaGreatDoor.Sy
theorem tr_comp {p q r : Pat} {l : List Str} (h : Twin p q) (hqr : q.rest = r.rest) (hc : l.all comp = true) (hm : matchL p l = true) : trL q r (trL p q l) = trL p r l:=by
 rw [matchL_mR,Bool.and_eq_true] at hm
 obtain ⟨hr,hm⟩:=hm
 have hle:=reaches_le hr
 have hcap : capsTo p l p.parts.length = capsR p.parts l:=capsTo_capsR p.rest p.parts l hle
 have hcl : (capsR p.parts l).length = (q.parts.filter isStar).length:=(capsR_len _ _ hm).trans h.sn
 have hcc:=capsR_comp _ _ hm hc
 obtain ⟨f1,f2⟩:=fill_mR q.parts (capsR p.parts l) (if q.rest then l.drop p.parts.length else []) hcl hcc
 have f4:=fillR_len q.parts (capsR p.parts l)
 have htr : trL p q l = fillR q.parts (capsR p.parts l) ++ (if q.rest then l.drop p.parts.length else []):=by rw [trL,hcap]
 rw [htr,trL,show capsTo q (fillR q.parts (capsR p.parts l) ++ (if q.rest then l.drop p.parts.length else [])) q.parts.length = capsR q.parts (fillR q.parts (capsR p.parts l) ++ (if q.rest then l.drop p.parts.length else [])) from capsTo_capsR q.rest q.parts _ (by rw [List.length_append,f4];omega),f2,trL,hcap]
 congr 1
 have hd : (fillR q.parts (capsR p.parts l) ++ (if q.rest then l.drop p.parts.length else [])).drop q.parts.length = (if q.rest then l.drop p.parts.length else []):=by
  rw [← f4,List.drop_left']
  rfl
 rw [hd,← hqr]
 rcases q.rest with _ | _ <;> rfl
def chainE (x y : Rule) : Option Rule × Int:=
 if ruleErr x ≠ 0 then (none,ruleErr x) else if ruleErr y ≠ 0 then (none,ruleErr y) else match meetP x.right y.left with
  |none=>(none,0)
  |some m=>if 12 < (carryP x.right x.left m).parts.length ∨ 12 < (carryP y.left y.right m).parts.length then (none,43) else (some ⟨false,carryP x.right x.left m,carryP y.left y.right m⟩,0)
def backHs (r : Rule) : List Pat → Option (List Pat)
 |[]=>some []
 |h :: hs=>if (narR r h).2 ≠ 0 then none else (backHs r hs).map fun l=>((narR r h).1.map (·.left)).toList ++ l
theorem backHs_eq {r : Rule} (hr : ruleErr r = 0) : ∀ hs : List Pat,backHs r hs = rightHs ⟨false,r.right,r.left⟩ hs
 |[]=>rfl
 |h :: hs=>by
  have ih:=backHs_eq hr hs
  have hn : narR r h = ((narL ⟨false,r.right,r.left⟩ h).1.map Rule.turn,(narL ⟨false,r.right,r.left⟩ h).2):=by
   unfold narR
   rw [if_neg (by simpa using hr)]
  unfold backHs rightHs
  rw [ih,hn]
  rcases narL ⟨false,r.right,r.left⟩ h with ⟨o,e⟩
  simp only
  by_cases he : e ≠ 0
  ·rw [if_pos he,if_pos he]
  ·rw [if_neg he,if_neg he]
   congr 1
   funext l
   cases o <;> rfl
def comOf (x y : Ent) : Option (Option Ent):=if (chainE x.rule y.rule).2 ≠ 0 then none else match (chainE x.rule y.rule).1 with
 |none=>some none
 |some c=>match backHs x.rule y.hs with
  |none=>none
  |some hs=>putH c (x.hs ++ hs)
def comL : List (Ent × Ent) → Option (List Ent)
 |[]=>some []
 |p :: ps=>match comOf p.1 p.2 with
  |none=>none
  |some o=>(comL ps).map (o.toList ++ ·)
def pairsL (a b : List Ent) : List (Ent × Ent):=a.flatMap fun x=>b.map fun y=>(x,y)
def comE (a b : List Ent) : List Ent × Int:=if (mapE a).2 ≠ 0 then ([],(mapE a).2) else if (mapE b).2 ≠ 0 then ([],(mapE b).2) else match comL (pairsL a b) with
 |none=>([],72)
 |some es=>if 32 < es.length then ([],72) else (es,0)
structure Com (x y c : Ent) : Prop where
 good : ruleErr c.rule = 0
 holes : ∀ p ∈ c.hs,patErr p = 0
 left : ∀ l : List Str,l.all comp = true → (matchL c.left l = true ↔ matchL x.left l = true ∧ matchL y.left (trL x.left x.right l) = true)
 tr : ∀ l : List Str,l.all comp = true → matchL c.left l = true → trL c.left c.right l = trL y.left y.right (trL x.left x.right l)
 covx : ∀ P : List Str → Prop,(∀ l,P l → l.all comp = true ∧ matchL c.left l = true) → (∃ l,P l) → Cov x.hs P → Cov c.hs P
 covy : ∀ P : List Str → Prop,(∀ l,P l → l.all comp = true ∧ matchL c.left l = true) → (∃ l,P l) → Cov y.hs (fun q=>∃ l,P l ∧ q = trL x.left x.right l) → Cov c.hs P
theorem chain_some {x y : Ent} (hx : ruleErr x.rule = 0) (hy : ruleErr y.rule = 0) {c : Rule} (h : (chainE x.rule y.rule).1 = some c) : ruleErr c = 0 ∧
  (∀ l : List Str,l.all comp = true → (matchL c.left l = true ↔ matchL x.left l = true ∧ matchL y.left (trL x.left x.right l) = true)) ∧
  (∀ l : List Str,l.all comp = true → matchL c.left l = true → trL c.left c.right l = trL y.left y.right (trL x.left x.right l)):=by
 have tx : Twin x.left x.right:=ruleErr_twin.1 hx
 have ty : Twin y.left y.right:=ruleErr_twin.1 hy
 unfold chainE at h
 rw [if_neg (by simpa using hx),if_neg (by simpa using hy)] at h
 rw [show x.rule.right = x.right from rfl,show y.rule.left = y.left from rfl,show x.rule.left = x.left from rfl,show y.rule.right = y.right from rfl] at h
 rcases hm : meetP x.right y.left with _ | m
 ·rw [hm] at h;cases h
 ·rw [hm] at h
  simp only at h
  split at h
  ·cases h
  ·rename_i h12
   obtain rfl:=Option.some.inj h
   obtain ⟨g1,g2,g3,g4⟩:=meetP_some hm
   have hin:=meetL_in (allOk_of g1) (allOk_of g2) g3
   have hmm:=fun (q : List Str) (hq : q.all comp = true)=>meetL_match (allOk_of g1) (allOk_of g2) g3 hq
   have hl1 : (carryP x.right x.left m).parts.length ≤ 12:=by omega
   have hl2 : (carryP y.left y.right m).parts.length ≤ 12:=by omega
   have i0 : Inner x.right x.left m:=⟨tx.turn,g4,hin.1⟩
   have i1 : Inner x.left x.right (carryP x.right x.left m):=i0.turn hl1
   have hb : carryP x.left x.right (carryP x.right x.left m) = m:=i0.back
   have i2 : Inner y.left y.right m:=⟨ty,g4,hin.2⟩
   have hml : m.parts.length ≤ 12:=(patErr_iff.1 g4).2.2.1
   have t1 : Twin (carryP x.right x.left m) m:=by
    have:=i1.twin (by rw [hb];exact hml)
    rw [hb] at this
    exact this
   have t2 : Twin m (carryP y.left y.right m):=i2.twin hl2
   have hleft : ∀ l : List Str,l.all comp = true → (matchL (carryP x.right x.left m) l = true ↔ matchL x.left l = true ∧ matchL y.left (trL x.left x.right l) = true):=fun l hc=>by
    constructor
    ·intro hl
     have hxl : matchL x.left l = true:=insideP_match (allOk_of i1.good) i1.inn hc hl
     have h3:=i1.match_iff (by rw [hb];exact hml) hc hxl
     rw [hb,hl,hmm _ (tr_twin tx hc hxl).2.1,Bool.and_eq_true] at h3
     exact ⟨hxl,h3.2⟩
    ·rintro ⟨hxl,hyl⟩
     have h3:=i1.match_iff (by rw [hb];exact hml) hc hxl
     obtain ⟨r1,r2,_⟩:=tr_twin tx hc hxl
     rw [hb,hmm _ r2,r1,hyl] at h3
     exact h3.symm
   refine ⟨ruleErr_twin.2 ⟨t1.lp,t2.rp,t1.sn.trans t2.sn,t1.rs.trans t2.rs⟩,hleft,fun l hc hl=>?_⟩
   show trL (carryP x.right x.left m) (carryP y.left y.right m) l = _
   have hl' : matchL (carryP x.right x.left m) l = true:=hl
   have hxl:=((hleft l hc).1 hl').1
   have e1:=i1.tr hl'
   rw [hb] at e1
   have hq:=(tr_twin t1 hc hl').1
   have hqc:=(tr_twin t1 hc hl').2.1
   rw [← tr_comp t1 t2.rs hc hl',i2.tr hq,e1]
theorem com_of {x y : Ent} (hx : ruleErr x.rule = 0 ∧ gErr x.reg = 0) (hy : ruleErr y.rule = 0 ∧ gErr y.reg = 0) {o : Option Ent} {c : Ent} (h : comOf x y = some o) (ho : o = some c) : Com x y c ∧ gErr c.reg = 0 ∧ ∃ r hs,(chainE x.rule y.rule).1 = some r ∧ backHs x.rule y.hs = some hs ∧ c = ⟨r.left,r.right,redL r.left (x.hs ++ hs)⟩:=by
 subst ho
 unfold comOf at h
 split at h
 ·cases h
 ·rcases hr : (chainE x.rule y.rule).1 with _ | r
  ·rw [hr] at h
   cases h
  ·rw [hr] at h
   simp only at h
   rcases hb : backHs x.rule y.hs with _ | hs
   ·rw [hb] at h;cases h
   ·rw [hb] at h
    simp only at h
    obtain ⟨hlen,h2⟩:=putH_some h
    rcases h2 with ⟨_,h3⟩ | ⟨_,h3⟩
    ·cases h3
    ·obtain rfl:=Option.some.inj h3
     obtain ⟨c1,c2,c3⟩:=chain_some hx.1 hy.1 hr
     have tx : Twin x.left x.right:=ruleErr_twin.1 hx.1
     have hb':=hb
     rw [backHs_eq hx.1] at hb'
     have hre : ruleErr (⟨false,x.right,x.left⟩ : Rule) = 0:=ruleErr_twin.2 tx.turn
     have hgood : ∀ p ∈ x.hs ++ hs,patErr p = 0:=fun p hp=>by
      rcases List.mem_append.1 hp with hp | hp
      ·exact (gErr_zero hx.2).2.1 p hp
      ·exact (rightHs_good hb').1 p hp
     have hbase : patErr r.left = 0:=(ruleErr_twin.1 c1).lp
     refine ⟨⟨ruleErr_twin.2 (ruleErr_twin.1 c1),fun p hp=>redL_good p hp,c2,c3,fun P hP h0 hc=>?_,fun P hP h0 hc=>?_⟩,gErr_of hbase (fun p hp=>redL_good p hp) hlen,r,hs,rfl,rfl,rfl⟩
     ·exact (cov_red hbase hgood hP h0).2 (Cov.app.2 (.inl hc))
     ·refine (cov_red hbase hgood hP h0).2 (Cov.app.2 (.inr ?_))
      refine (cov_right (r:=⟨false,x.right,x.left⟩) hre (gErr_zero hy.2).2.1 hb' (P:=P) (fun l hl=>⟨(hP l hl).1,((c2 l (hP l hl).1).1 (hP l hl).2).1⟩) h0).2 ?_
      refine hc.mono (fun z hz=>hz) fun q ⟨hqc,hq,hp⟩=>⟨_,hp,?_⟩
      exact (tr_twin tx.turn hqc hq).2.2.2.symm
end Go.Proofs.YtdcdabbepnahnaaGreatDoor.Sy
set_option linter.unusedVariables false
set_option linter.unusedSimpArgs false
namespace Go.Proofs.YtdcdabbepnahnaaGreatDoor.Sy

theorem star_cons {x : Str} (h : isStar x = true) : [42] ++ x.tail = x:=(star_text h).symm
theorem fillR_stars : ∀ (xs : List Str),fillR xs (List.replicate (xs.filter isStar).length [42]) = xs
 |[]=>rfl
 |x :: xs=>by
  have ih:=fillR_stars xs
  rcases hs : isStar x with _ | _
  ·rw [List.filter_cons,hs]
   simp only [Bool.false_eq_true,if_false,fillR,hs]
   rw [ih]
  ·rw [List.filter_cons,hs]
   simp only [if_true,List.length_cons,List.replicate_succ,fillR,hs,List.headD_cons,List.tail_cons]
   rw [ih,star_cons hs]
theorem cap1_app {x : Str} (c : Str) : cap1 x (c ++ x.tail) = c:=by
 unfold cap1
 rw [List.length_append,Nat.add_sub_cancel,List.take_left']
 rfl
theorem cap1_self {x : Str} (h : isStar x = true) : cap1 x x = [42]:=by
 have:=cap1_app (x:=x) [42]
 rwa [star_cons h] at this
theorem capsR_self : ∀ (ms : List Str),capsR ms ms = List.replicate (ms.filter isStar).length [42]
 |[]=>rfl
 |x :: xs=>by
  have ih:=capsR_self xs
  rcases hs : isStar x with _ | _
  ·rw [List.filter_cons,hs]
   simp only [Bool.false_eq_true,if_false,capsR,hs]
   exact ih
  ·rw [List.filter_cons,hs]
   simp only [if_true,capsR,hs,List.length_cons,List.replicate_succ,cap1_self hs]
   rw [ih]
theorem carry_carry {p q m m' : Pat} (h : Inner p q m) (hl : (carryP p q m).parts.length ≤ 12) (h' : Inner m (carryP p q m) m') (hn : m'.parts.length = m.parts.length) : carryP m (carryP p q m) m' = carryP p q m':=by
 have hm:=h'.mr
 have hle:=h.le
 have hst : ((m.parts.take p.parts.length).filter isStar).length = (capsR (m.parts.take p.parts.length) m'.parts).length:=(capsR_len _ _ (mR_take _ _ _ hm)).symm
 have hfl : (capsR (m.parts.take p.parts.length) m'.parts).length = ((fillR q.parts (capsR p.parts m.parts)).filter isStar).length:=by
  rw [fill_stars _ _ h.cl h.cn,caps_stars _ _ h.inr h.mr,hst]
 have e : trL m (carryP p q m) m'.parts = trL p q m'.parts:=by
  rw [trL_eq (by omega),trL_eq (by omega),h.parts,h.crest,capsR_split p.parts.length m.parts m'.parts hm,fillR_app _ _ _ _ hfl,fill_fill _ _ _ h.cl h.cn,← caps_caps _ _ _ h.inr h.mr hm,List.append_assoc]
  congr 1
  rw [List.drop_of_length_le (show m'.parts.length ≤ m.parts.length by omega)]
  rcases hq : q.rest with _ | _
  ·simp [fillR]
  ·simp only [if_true]
   rw [fill_caps _ _ (mR_drop p.parts.length _ _ hm),List.length_drop,List.take_of_length_le (by rw [List.length_drop];omega)]
   cases m.rest <;> simp
 have hr : ((carryP p q m).rest && m'.rest) = (q.rest && m'.rest):=by
  rw [h.crest]
  rcases hm' : m'.rest with _ | _
  ·rw [Bool.and_false,Bool.and_false]
  ·have h1:=h'.rest hm'
   rw [h.crest] at h1
   rw [h1,h.rest h1]
 show (⟨trL m (carryP p q m) m'.parts,(carryP p q m).rest && m'.rest⟩ : Pat) = ⟨trL p q m'.parts,q.rest && m'.rest⟩
 rw [e,hr]
end Go.Proofs.YtdcdabbepnahnaaGreatDoor.Sy
set_option linter.unusedVariables false
set_option linter.unusedSimpArgs false
namespace Go.Proofs.YtdcdabbepnahnaaGreatDoor.Sy

def comF (p : Ent × Ent) : Option Ent:=(comOf p.1 p.2).getD none
theorem comL_mem : ∀ {ps : List (Ent × Ent)} {es : List Ent},comL ps = some es → (∀ p ∈ ps,∃ o,comOf p.1 p.2 = some o) ∧ es = ps.filterMap comF
 |[],es,h=>by
  obtain rfl:=Option.some.inj h
  exact ⟨fun p hp=>(by cases hp),rfl⟩
 |p :: ps,es,h=>by
  unfold comL at h
  rcases hc : comOf p.1 p.2 with _ | o
  ·rw [hc] at h;cases h
  ·rw [hc] at h
   obtain ⟨l,hl,rfl⟩:=Option.map_eq_some_iff.1 h
   obtain ⟨h1,h2⟩:=comL_mem hl
   refine ⟨fun q hq=>?_,?_⟩
   ·rcases List.mem_cons.1 hq with rfl | hq
    ·exact ⟨o,hc⟩
    ·exact h1 q hq
   ·have hf : comF p = o:=by unfold comF;rw [hc];rfl
    rw [List.filterMap_cons,hf,← h2]
    cases o <;> rfl
theorem comF_com {x y c : Ent} (hx : ruleErr x.rule = 0 ∧ gErr x.reg = 0) (hy : ruleErr y.rule = 0 ∧ gErr y.reg = 0) (h : comF (x,y) = some c) : Com x y c ∧ gErr c.reg = 0 ∧ ∃ r hs,(chainE x.rule y.rule).1 = some r ∧ backHs x.rule y.hs = some hs ∧ c = ⟨r.left,r.right,redL r.left (x.hs ++ hs)⟩:=by
 unfold comF at h
 rcases hc : comOf x y with _ | o
 ·rw [show comOf (x,y).1 (x,y).2 = comOf x y from rfl,hc] at h;cases h
 ·rw [show comOf (x,y).1 (x,y).2 = comOf x y from rfl,hc] at h
  exact com_of hx hy hc h
theorem com_key {x y : Ent} (hx : ruleErr x.rule = 0 ∧ gErr x.reg = 0) (hy : ruleErr y.rule = 0 ∧ gErr y.reg = 0) {r : Rule} {hs : List Pat} (hr : (chainE x.rule y.rule).1 = some r) (hb : backHs x.rule y.hs = some hs) {l : List Str} (hc : l.all comp = true) (hl : matchL x.left l = true) :
  hasL r.left (redL r.left (x.hs ++ hs)) l = (hasG x.reg l && hasG y.reg (trL x.left x.right l)):=by
 obtain ⟨c1,c2,_⟩:=chain_some hx.1 hy.1 hr
 have tx : Twin x.left x.right:=ruleErr_twin.1 hx.1
 rw [backHs_eq hx.1] at hb
 have hre : ruleErr (⟨false,x.right,x.left⟩ : Rule) = 0:=ruleErr_twin.2 tx.turn
 obtain ⟨t1,t2,_,t4⟩:=tr_twin tx hc hl
 have hany:=right_any (r:=⟨false,x.right,x.left⟩) hre (gErr_zero hy.2).2.1 hb t2 t1
 rw [show trL (⟨false,x.right,x.left⟩ : Rule).left (⟨false,x.right,x.left⟩ : Rule).right (trL x.left x.right l) = l from t4] at hany
 have hgood : ∀ p ∈ x.hs ++ hs,patErr p = 0:=fun p hp=>by
  rcases List.mem_append.1 hp with hp | hp
  ·exact (gErr_zero hx.2).2.1 p hp
  ·exact (rightHs_good hb).1 p hp
 rw [redL_has (ruleErr_twin.1 c1).lp hgood hc]
 unfold hasG hasL
 rw [List.any_append]
 show (matchL r.left l && !((x.hs.any fun h=>matchL h l) || (hs.any fun h=>matchL h l))) = (matchL x.left l && !(x.hs.any fun h=>matchL h l) && (matchL y.left (trL x.left x.right l) && !(y.hs.any fun h=>matchL h (trL x.left x.right l))))
 have hm : matchL r.left l = (matchL x.left l && matchL y.left (trL x.left x.right l)):=by
  rw [Bool.eq_iff_iff,Bool.and_eq_true]
  exact c2 l hc
 rw [hm,hany]
 show (_ && !((x.hs.any fun h=>matchL h l) || (y.hs.any fun h=>matchL h (trL x.left x.right l)))) = _
 cases matchL x.left l <;> cases matchL y.left (trL x.left x.right l) <;> cases (x.hs.any fun h=>matchL h l) <;> cases (y.hs.any fun h=>matchL h (trL x.left x.right l)) <;> rfl
theorem com_has {x y : Ent} (hx : ruleErr x.rule = 0 ∧ gErr x.reg = 0) (hy : ruleErr y.rule = 0 ∧ gErr y.reg = 0) (hp : ∃ o,comOf x y = some o) {l : List Str} (hc : l.all comp = true) :
  (hasG x.reg l = true ∧ hasG y.reg (trL x.left x.right l) = true) ↔ ∃ c,comF (x,y) = some c ∧ hasG c.reg l = true:=by
 constructor
 ·rintro ⟨h1,h2⟩
  have hml : matchL x.left l = true:=by
   unfold hasG hasL at h1
   rw [Bool.and_eq_true] at h1
   exact h1.1
  have hmy : matchL y.left (trL x.left x.right l) = true:=by
   unfold hasG hasL at h2
   rw [Bool.and_eq_true] at h2
   exact h2.1
  have tx : Twin x.left x.right:=ruleErr_twin.1 hx.1
  obtain ⟨t1,t2,_,_⟩:=tr_twin tx hc hml
  obtain ⟨o,ho⟩:=hp
  have ho':=ho
  unfold comOf at ho
  split at ho
  ·cases ho
  ·rename_i h0
   rcases hr : (chainE x.rule y.rule).1 with _ | r
   ·exfalso
    unfold chainE at hr h0
    rw [if_neg (by simpa using hx.1),if_neg (by simpa using hy.1)] at hr h0
    rw [show x.rule.right = x.right from rfl,show y.rule.left = y.left from rfl] at hr h0
    rcases hm : meetP x.right y.left with _ | m
    ·have h5 : meetL x.right y.left = none:=by
      unfold meetP at hm
      rw [if_pos ⟨tx.rp,(gErr_zero hy.2).1⟩] at hm
      exact hm
     have:=meetL_nomatch h5 t2
     rw [t1,hmy] at this
     cases this
    ·rw [hm] at hr h0
     simp only at hr h0
     split at hr
     ·rename_i h12
      rw [if_pos h12] at h0
      simp at h0
     ·cases hr
   ·rw [hr] at ho
    simp only at ho
    rcases hb : backHs x.rule y.hs with _ | hs
    ·rw [hb] at ho;cases ho
    ·rw [hb] at ho
     simp only at ho
     obtain ⟨_,h3⟩:=putH_some ho
     have hk:=com_key hx hy hr hb hc hml
     rw [h1,h2] at hk
     have hne:=(least_len (patErr_form (ruleErr_twin.1 (chain_some hx.1 hy.1 hr).1).lp).1 hc hk).1
     rcases h3 with ⟨h4,_⟩ | ⟨_,h4⟩
     ·exact absurd h4 hne
     ·refine ⟨⟨r.left,r.right,redL r.left (x.hs ++ hs)⟩,?_,hk⟩
      show comF (x,y) = some ⟨r.left,r.right,redL r.left (x.hs ++ hs)⟩
      unfold comF
      rw [show comOf (x,y).1 (x,y).2 = comOf x y from rfl,ho',h4]
      rfl
 ·rintro ⟨c,hf,hh⟩
  obtain ⟨hcom,_,r,hs,hr,hb,rfl⟩:=comF_com hx hy hf
  have hcl : matchL r.left l = true:=by
   unfold hasG hasL at hh
   rw [Bool.and_eq_true] at hh
   exact hh.1
  have hml:=((hcom.left l hc).1 hcl).1
  have hk:=com_key hx hy hr hb hc hml
  have hh' : hasL r.left (redL r.left (x.hs ++ hs)) l = true:=hh
  rw [hk,Bool.and_eq_true] at hh'
  exact hh'
theorem clashE_comm (x y : Ent) : clashE x y = clashE y x:=by
 unfold clashE
 rw [commonG_comm x.reg y.reg,commonG_comm (rG x) (rG y)]
theorem Mapping.or {m : List Ent} (h : Mapping m) {x y : Ent} (hx : x ∈ m) (hy : y ∈ m) : x = y ∨ clashE x y = false:=by
 obtain ⟨i,hi,ex⟩:=List.mem_iff_getElem.1 hx
 obtain ⟨j,hj,ey⟩:=List.mem_iff_getElem.1 hy
 have e1 : m[i]? = some x:=by rw [List.getElem?_eq_getElem hi,ex]
 have e2 : m[j]? = some y:=by rw [List.getElem?_eq_getElem hj,ey]
 rcases Nat.lt_trichotomy i j with hlt | heq | hgt
 ·rw [clashE_comm]
  exact .inr (h.apart j i y x e2 e1 hlt)
 ·subst heq
  rw [e1] at e2
  exact .inl (Option.some.inj e2)
 ·exact .inr (h.apart i j x y e1 e2 hgt)
theorem pairs_mem {a b : List Ent} {p : Ent × Ent} (h : p ∈ pairsL a b) : p.1 ∈ a ∧ p.2 ∈ b:=by
 unfold pairsL at h
 obtain ⟨x,hx,hp⟩:=List.mem_flatMap.1 h
 obtain ⟨y,hy,rfl⟩:=List.mem_map.1 hp
 exact ⟨hx,hy⟩
theorem hasG_left {x : Ent} {l : List Str} (h : hasG x.reg l = true) : matchL x.left l = true:=by
 unfold hasG hasL at h
 rw [Bool.and_eq_true] at h
 exact h.1
theorem fwdM_some {m : List Ent} {s t : Str} (h : fwdM m s = some t) : ∃ l x,pathOf s = some l ∧ x ∈ m ∧ hasG x.reg l = true ∧ m.find? (fun x=>hasG x.reg l) = some x ∧ t = pathStr (trL x.left x.right l):=by
 unfold fwdM at h
 rcases hp : pathOf s with _ | l
 ·rw [hp] at h;cases h
 ·rw [hp] at h
  obtain ⟨x,hx,rfl⟩:=Option.map_eq_some_iff.1 h
  exact ⟨l,x,rfl,List.mem_of_find?_eq_some hx,List.find?_some (p:=fun x : Ent=>hasG x.reg l) hx,hx,rfl⟩
theorem com_mean {a b es : List Ent} (ha : Mapping a) (hb : Mapping b) (h : comL (pairsL a b) = some es) (he : Mapping es) (s : Str) : fwdM es s = (fwdM a s).bind (fwdM b):=by
 obtain ⟨h1,h2⟩:=comL_mem h
 have ex : ∀ u,(fwdM a s).bind (fwdM b) = some u → fwdM es s = some u:=fun u hu=>by
  obtain ⟨t,ht,hu⟩:=Option.bind_eq_some_iff.1 hu
  obtain ⟨l,x,hp,hx,hhx,_,rfl⟩:=fwdM_some ht
  have hc:=(pathOf_some hp).2.1
  have tx : Twin x.left x.right:=ruleErr_twin.1 (ha.good x hx).1
  obtain ⟨t1,t2,t3,_⟩:=tr_twin tx hc (hasG_left hhx)
  obtain ⟨q,y,hq,hy,hhy,_,rfl⟩:=fwdM_some hu
  rw [pathOf_str t3 t2] at hq
  obtain rfl:=Option.some.inj hq
  have hpm : (x,y) ∈ pairsL a b:=List.mem_flatMap.2 ⟨x,hx,List.mem_map.2 ⟨y,hy,rfl⟩⟩
  obtain ⟨c,hf,hh⟩:=(com_has (ha.good x hx) (hb.good y hy) (h1 _ hpm) hc).1 ⟨hhx,hhy⟩
  have hce : c ∈ es:=by rw [h2];exact List.mem_filterMap.2 ⟨_,hpm,hf⟩
  unfold fwdM
  rw [hp]
  simp only
  rw [(he.left_apart hc).find hce hh,Option.map_some,(comF_com (ha.good x hx) (hb.good y hy) hf).1.tr l hc (hasG_left hh)]
 have back : ∀ u,fwdM es s = some u → (fwdM a s).bind (fwdM b) ≠ none:=fun u hu hn=>by
  obtain ⟨l,c,hp,hc,hh,_,_⟩:=fwdM_some hu
  have hcc:=(pathOf_some hp).2.1
  rw [h2] at hc
  obtain ⟨⟨x,y⟩,hpm,hf⟩:=List.mem_filterMap.1 hc
  obtain ⟨hx,hy⟩:=pairs_mem hpm
  obtain ⟨g1,g2⟩:=(com_has (ha.good x hx) (hb.good y hy) (h1 _ hpm) hcc).2 ⟨c,hf,hh⟩
  have tx : Twin x.left x.right:=ruleErr_twin.1 (ha.good x hx).1
  obtain ⟨t1,t2,t3,_⟩:=tr_twin tx hcc (hasG_left g1)
  have e1 : fwdM a s = some (pathStr (trL x.left x.right l)):=by
   unfold fwdM
   rw [hp]
   simp only
   rw [(ha.left_apart hcc).find hx g1]
   rfl
  have e2 : fwdM b (pathStr (trL x.left x.right l)) = some (pathStr (trL y.left y.right (trL x.left x.right l))):=by
   unfold fwdM
   rw [pathOf_str t3 t2]
   simp only
   rw [(hb.left_apart t2).find hy g2]
   rfl
  rw [e1,Option.bind_some,e2] at hn
  cases hn
 rcases hr : (fwdM a s).bind (fwdM b) with _ | u
 ·rcases hl : fwdM es s with _ | v
  ·rfl
  ·exact absurd hr (back v hl)
 ·exact ex u hr
end Go.Proofs.YtdcdabbepnahnaaGreatDoor.Sy
set_option linter.unusedVariables false
set_option linter.unusedSimpArgs false
namespace Go.Proofs.YtdcdabbepnahnaaGreatDoor.Sy

end Go.Proofs.YtdcdabbepnahnaaGreatDoor.Sy
