/- Walk: rule.Chain. -/
import Derived.Test.YtnlnclefedohkaaGreatDoorZPutA
import Derived.Test.YtnlnclefedohkaaGreatDoorZGChkU
import Derived.Test.YtnlnclefedohkaaGreatDoorZNarW
set_option linter.unusedVariables false
set_option linter.unusedSimpArgs false
namespace Go.Proofs.YtnlnclefedohkaaGreatDoor.Sy
theorem tr_comp {p q r : Pat} {l : List Str} (h : Twin p q) (hqr : q.rest = r.rest) (hc : l.all comp = true) (hm : matchL p l = true) : trL q r (trL p q l) = trL p r l:=by
 rw [matchL_mR,Bool.and_eq_true] at hm
 obtain ⟨hr,hm⟩:=hm
 have hle:=reaches_le hr
 have hcap : capsTo p l p.parts.length = capsR p.parts l:=capsTo_capsR p.rest p.parts l hle
 have hcl : (capsR p.parts l).length = (q.parts.filter isStar).length:=(capsR_len _ _ hm).trans h.sn
 have hcc:=capsR_comp _ _ hm hc
 obtain ⟨f1,f2⟩:=fill_mR q.parts (capsR p.parts l) (if q.rest then l.drop p.parts.length else []) hcl hcc
 have f4:=fillR_len q.parts (capsR p.parts l)
 have htr : trL p q l = fillR q.parts (capsR p.parts l) ++ (if q.rest then l.drop p.parts.length else []):=by rw [trL,hcap]
 rw [htr,trL,show capsTo q (fillR q.parts (capsR p.parts l) ++ (if q.rest then l.drop p.parts.length else [])) q.parts.length = capsR q.parts (fillR q.parts (capsR p.parts l) ++ (if q.rest then l.drop p.parts.length else [])) from capsTo_capsR q.rest q.parts _ (by rw [List.length_append,f4];omega),f2,trL,hcap]
 congr 1
 have hd : (fillR q.parts (capsR p.parts l) ++ (if q.rest then l.drop p.parts.length else [])).drop q.parts.length = (if q.rest then l.drop p.parts.length else []):=by
  rw [← f4,List.drop_left']
  rfl
 rw [hd,← hqr]
 rcases q.rest with _ | _ <;> rfl
def chainE (x y : Rule) : Option Rule × Int:=
 if ruleErr x ≠ 0 then (none,ruleErr x) else if ruleErr y ≠ 0 then (none,ruleErr y) else match meetP x.right y.left with
  |none=>(none,0)
  |some m=>if 12 < (carryP x.right x.left m).parts.length ∨ 12 < (carryP y.left y.right m).parts.length then (none,43) else (some ⟨false,carryP x.right x.left m,carryP y.left y.right m⟩,0)
def backHs (r : Rule) : List Pat → Option (List Pat)
 |[]=>some []
 |h :: hs=>if (narR r h).2 ≠ 0 then none else (backHs r hs).map fun l=>((narR r h).1.map (·.left)).toList ++ l
theorem backHs_eq {r : Rule} (hr : ruleErr r = 0) : ∀ hs : List Pat,backHs r hs = rightHs ⟨false,r.right,r.left⟩ hs
 |[]=>rfl
 |h :: hs=>by
  have ih:=backHs_eq hr hs
  have hn : narR r h = ((narL ⟨false,r.right,r.left⟩ h).1.map Rule.turn,(narL ⟨false,r.right,r.left⟩ h).2):=by
   unfold narR
   rw [if_neg (by simpa using hr)]
  unfold backHs rightHs
  rw [ih,hn]
  rcases narL ⟨false,r.right,r.left⟩ h with ⟨o,e⟩
  simp only
  by_cases he : e ≠ 0
  ·rw [if_pos he,if_pos he]
  ·rw [if_neg he,if_neg he]
   congr 1
   funext l
   cases o <;> rfl
def comOf (x y : Ent) : Option (Option Ent):=if (chainE x.rule y.rule).2 ≠ 0 then none else match (chainE x.rule y.rule).1 with
 |none=>some none
 |some c=>match backHs x.rule y.hs with
  |none=>none
  |some hs=>putH c (x.hs ++ hs)
def comL : List (Ent × Ent) → Option (List Ent)
 |[]=>some []
 |p :: ps=>match comOf p.1 p.2 with
  |none=>none
  |some o=>(comL ps).map (o.toList ++ ·)
def pairsL (a b : List Ent) : List (Ent × Ent):=a.flatMap fun x=>b.map fun y=>(x,y)
def comE (a b : List Ent) : List Ent × Int:=if (mapE a).2 ≠ 0 then ([],(mapE a).2) else if (mapE b).2 ≠ 0 then ([],(mapE b).2) else match comL (pairsL a b) with
 |none=>([],72)
 |some es=>if 32 < es.length then ([],72) else (es,0)

theorem chain_some {x y : Ent} (hx : ruleErr x.rule = 0) (hy : ruleErr y.rule = 0) {c : Rule} (h : (chainE x.rule y.rule).1 = some c) : ruleErr c = 0 ∧
  (∀ l : List Str,l.all comp = true → (matchL c.left l = true ↔ matchL x.left l = true ∧ matchL y.left (trL x.left x.right l) = true)) ∧
  (∀ l : List Str,l.all comp = true → matchL c.left l = true → trL c.left c.right l = trL y.left y.right (trL x.left x.right l)):=by
 have tx : Twin x.left x.right:=ruleErr_twin.1 hx
 have ty : Twin y.left y.right:=ruleErr_twin.1 hy
 unfold chainE at h
 rw [if_neg (by simpa using hx),if_neg (by simpa using hy)] at h
 rw [show x.rule.right = x.right from rfl,show y.rule.left = y.left from rfl,show x.rule.left = x.left from rfl,show y.rule.right = y.right from rfl] at h
 rcases hm : meetP x.right y.left with _ | m
 ·rw [hm] at h;cases h
 ·rw [hm] at h
  simp only at h
  split at h
  ·cases h
  ·rename_i h12
   obtain rfl:=Option.some.inj h
   obtain ⟨g1,g2,g3,g4⟩:=meetP_some hm
   have hin:=meetL_in (allOk_of g1) (allOk_of g2) g3
   have hmm:=fun (q : List Str) (hq : q.all comp = true)=>meetL_match (allOk_of g1) (allOk_of g2) g3 hq
   have hl1 : (carryP x.right x.left m).parts.length ≤ 12:=by omega
   have hl2 : (carryP y.left y.right m).parts.length ≤ 12:=by omega
   have i0 : Inner x.right x.left m:=⟨tx.turn,g4,hin.1⟩
   have i1 : Inner x.left x.right (carryP x.right x.left m):=i0.turn hl1
   have hb : carryP x.left x.right (carryP x.right x.left m) = m:=i0.back
   have i2 : Inner y.left y.right m:=⟨ty,g4,hin.2⟩
   have hml : m.parts.length ≤ 12:=(patErr_iff.1 g4).2.2.1
   have t1 : Twin (carryP x.right x.left m) m:=by
    have:=i1.twin (by rw [hb];exact hml)
    rw [hb] at this
    exact this
   have t2 : Twin m (carryP y.left y.right m):=i2.twin hl2
   have hleft : ∀ l : List Str,l.all comp = true → (matchL (carryP x.right x.left m) l = true ↔ matchL x.left l = true ∧ matchL y.left (trL x.left x.right l) = true):=fun l hc=>by
    constructor
    ·intro hl
     have hxl : matchL x.left l = true:=insideP_match (allOk_of i1.good) i1.inn hc hl
     have h3:=i1.match_iff (by rw [hb];exact hml) hc hxl
     rw [hb,hl,hmm _ (tr_twin tx hc hxl).2.1,Bool.and_eq_true] at h3
     exact ⟨hxl,h3.2⟩
    ·rintro ⟨hxl,hyl⟩
     have h3:=i1.match_iff (by rw [hb];exact hml) hc hxl
     obtain ⟨r1,r2,_⟩:=tr_twin tx hc hxl
     rw [hb,hmm _ r2,r1,hyl] at h3
     exact h3.symm
   refine ⟨ruleErr_twin.2 ⟨t1.lp,t2.rp,t1.sn.trans t2.sn,t1.rs.trans t2.rs⟩,hleft,fun l hc hl=>?_⟩
   show trL (carryP x.right x.left m) (carryP y.left y.right m) l = _
   have hl' : matchL (carryP x.right x.left m) l = true:=hl
   have hxl:=((hleft l hc).1 hl').1
   have e1:=i1.tr hl'
   rw [hb] at e1
   have hq:=(tr_twin t1 hc hl').1
   have hqc:=(tr_twin t1 hc hl').2.1
   rw [← tr_comp t1 t2.rs hc hl',i2.tr hq,e1]
end Go.Proofs.YtnlnclefedohkaaGreatDoor.Sy
set_option linter.unusedVariables false
set_option linter.unusedSimpArgs false
namespace Go.Proofs.YtnlnclefedohkaaGreatDoor.Sy

def comF (p : Ent × Ent) : Option Ent:=(comOf p.1 p.2).getD none
theorem comL_mem : ∀ {ps : List (Ent × Ent)} {es : List Ent},comL ps = some es → (∀ p ∈ ps,∃ o,comOf p.1 p.2 = some o) ∧ es = ps.filterMap comF
 |[],es,h=>by
  obtain rfl:=Option.some.inj h
  exact ⟨fun p hp=>(by cases hp),rfl⟩
 |p :: ps,es,h=>by
  unfold comL at h
  rcases hc : comOf p.1 p.2 with _ | o
  ·rw [hc] at h;cases h
  ·rw [hc] at h
   obtain ⟨l,hl,rfl⟩:=Option.map_eq_some_iff.1 h
   obtain ⟨h1,h2⟩:=comL_mem hl
   refine ⟨fun q hq=>?_,?_⟩
   ·rcases List.mem_cons.1 hq with rfl | hq
    ·exact ⟨o,hc⟩
    ·exact h1 q hq
   ·have hf : comF p = o:=by unfold comF;rw [hc];rfl
    rw [List.filterMap_cons,hf,← h2]
    cases o <;> rfl
end Go.Proofs.YtnlnclefedohkaaGreatDoor.Sy
set_option linter.unusedVariables false
set_option linter.unusedSimpArgs false
namespace Go.Proofs.YtnlnclefedohkaaGreatDoor.Sy

end Go.Proofs.YtnlnclefedohkaaGreatDoor.Sy
set_option linter.unusedVariables false
set_option linter.unusedSimpArgs false
namespace Go.Proofs.YtnlnclefedohkaaGreatDoor
open Go Go.RowKit Sy
def EntOut (es : List Ent) (er : Int) (B : Nat) (e : Ending) (w' : World) : Prop:=∃ A c,e = .returned (.tuple #[.slice A es.length c,.int .i64 er]) ∧ es.length ≤ c ∧ c ≤ 9223372036854775807 ∧ ∃ zs : List NewE,zs.map (·.e) = es ∧ ReadX encE 5 w' A zs ∧ ∀ z ∈ zs,EntN w' B z
theorem entOut_err (er : Int) (B : Nat) (w' : World) : EntOut [] er B (.returned (.tuple #[.slice none 0 0,.int .i64 er])) w':=⟨none,0,rfl,Nat.le_refl _,by omega,[],rfl,fun h=>absurd rfl h,fun z hz=>by cases hz⟩
theorem ResE.out {w0 : World} {es : List Ent} {e : Ending} {w' : World} (h : ResE w0 es e w') : EntOut (if 32 < es.length then [] else es) (if 32 < es.length then 72 else 0) w0.heap.size e w':=by
 unfold ResE at h
 split at h
 ·rename_i h1
  rw [if_pos h1,if_pos h1,h]
  exact entOut_err _ _ _
 ·rename_i h1
  rw [if_neg h1,if_neg h1]
  exact h
theorem PatsR.toU {w : World} {A : Option Addr} {ps : List Pat} (h : PatsR w A ps) : PatsU w A ps:=
 ⟨by have:=h.len;omega,fun h0=>by
  obtain ⟨b,o,hA,hb,hk⟩:=h.at_ h0
  refine ⟨b,o,hA,hb,fun k p hp=>?_⟩
  obtain ⟨Ak,ck,g1,g2,g3,g4,g5⟩:=hk k p hp
  exact ⟨Ak,ck,g1,g2,g3,g4,g5.toU⟩⟩
theorem colA_new {w0 w : World} (hc : Calm w0 w) : ColA w0 (w.alloc (.cells #[.slice none 0 0,.bool false] 47)) w.heap.size []:=.inl ⟨_,_,ColE.new hc,rfl,Nat.zero_le _⟩
theorem PutEnd.some {w0 w' : World} {G : Nat} {es : List Ent} {n : Rule} {ps : List Pat} {e : Ending} {o : Option Ent} (h : PutEnd w0 w' G es n ps e) (ho : putH n ps = some o) : e = .returned (.int .i64 0) ∧ ColA w0 w' G (es ++ o.toList):=by
 unfold PutEnd at h
 rw [ho] at h
 cases o with
 |none=>exact ⟨h.1,by simpa using h.2⟩
 |some x=>exact h
theorem PutEnd.none {w0 w' : World} {G : Nat} {es : List Ent} {n : Rule} {ps : List Pat} {e : Ending} (h : PutEnd w0 w' G es n ps e) (ho : putH n ps = none) : e = .returned (.int .i64 72) ∧ ColA w0 w' G es:=by
 unfold PutEnd at h
 rw [ho] at h
 exact h
theorem take_filterMap {α β : Type} {f : α → Option β} {l : List α} {k : Nat} {x : α} (h : l[k]? = some x) : (l.take (k + 1)).filterMap f = (l.take k).filterMap f ++ (f x).toList:=by
 rw [take_snoc h,List.filterMap_append]
 rfl
end Go.Proofs.YtnlnclefedohkaaGreatDoor
set_option linter.unusedVariables false
set_option linter.unusedSimpArgs false
namespace Go.Proofs.YtnlnclefedohkaaGreatDoor
open Go Go.RowKit Sy

def bothE (r q : Rule) : Int:=if ruleErr r ≠ 0 then ruleErr r else ruleErr q
set_option maxHeartbeats 4000000 in
theorem checkBoth_c (r q : Rule) (a b : Pl) (w : World) (hr : RuleU w a r) (hq : RuleU w b q) :
  Calls Tryz.prog 51 #[ruleV a r,ruleV b q] w fun e w'=>e = .returned (.int .i64 (bothE r q)) ∧ Calm w w':=by
 obtain ⟨nl,hnl⟩ : ∃ nl,r.left.parts.length = nl:=⟨_,rfl⟩
 obtain ⟨nr,hnr⟩ : ∃ nr,r.right.parts.length = nr:=⟨_,rfl⟩
 obtain ⟨lr,hlr⟩ : ∃ lr,r.left.rest = lr:=⟨_,rfl⟩
 obtain ⟨rr,hrr⟩ : ∃ rr,r.right.rest = rr:=⟨_,rfl⟩
 obtain ⟨ex,hex⟩ : ∃ ex,r.excl = ex:=⟨_,rfl⟩
 obtain ⟨ql,hql⟩ : ∃ ql,q.left.parts.length = ql:=⟨_,rfl⟩
 obtain ⟨qr,hqr⟩ : ∃ qr,q.right.parts.length = qr:=⟨_,rfl⟩
 obtain ⟨kl,hkl⟩ : ∃ kl,q.left.rest = kl:=⟨_,rfl⟩
 obtain ⟨kr,hkr⟩ : ∃ kr,q.right.rest = kr:=⟨_,rfl⟩
 obtain ⟨qx,hqx⟩ : ∃ qx,q.excl = qx:=⟨_,rfl⟩
 obtain ⟨w1,hw1⟩ : ∃ w1,w1 = (w.alloc (.cells #[.bool ex,.slice a.AL nl a.cl,.bool lr,.slice a.AR nr a.cr,.bool rr] 52)).alloc (.cells #[.bool qx,.slice b.AL ql b.cl,.bool kl,.slice b.AR qr b.cr,.bool kr] 52):=⟨_,rfl⟩
 have hc1 : Calm w w1:=by rw [hw1];exact ((Calm.refl w).alloc _).alloc _
 have hbr : FiveB w1 w.heap.size (.bool ex) (.slice a.AL nl a.cl) (.bool lr) (.slice a.AR nr a.cr) (.bool rr):=by
  rw [hw1]
  exact (FiveB.new w _ _ _ _ _ _).calm ((Calm.refl _).alloc _)
 have hbq : FiveB w1 (w.heap.size + 1) (.bool qx) (.slice b.AL ql b.cl) (.bool kl) (.slice b.AR qr b.cr) (.bool kr):=by
  rw [hw1]
  have:=FiveB.new (w.alloc (.cells #[.bool ex,.slice a.AL nl a.cl,.bool lr,.slice a.AR nr a.cr,.bool rr] 52)) (.bool qx) (.slice b.AL ql b.cl) (.bool kl) (.slice b.AR qr b.cr) (.bool kr) 52
  simpa using this
 obtain ⟨v,hv⟩ : ∃ v,ruleErr r = v:=⟨_,rfl⟩
 obtain ⟨u,hu⟩ : ∃ u,ruleErr q = u:=⟨_,rfl⟩
 have KR : Hid (∀ W,Calm w1 W → Calls Tryz.prog 53 #[.agg #[.bool ex,.slice a.AL nl a.cl,.bool lr,.slice a.AR nr a.cr,.bool rr]] W fun e w'=>e = .returned (.int .i64 v) ∧ Calm W w'):=fun W hW=>by
  have:=rule_c r a W ((hr.calm hc1).calm hW)
  unfold ruleV at this
  rw [hnl,hnr,hlr,hrr,hex,hv] at this
  exact this
 have KQ : Hid (∀ W,Calm w1 W → Calls Tryz.prog 53 #[.agg #[.bool qx,.slice b.AL ql b.cl,.bool kl,.slice b.AR qr b.cr,.bool kr]] W fun e w'=>e = .returned (.int .i64 u) ∧ Calm W w'):=fun W hW=>by
  have:=rule_c q b W ((hq.calm hc1).calm hW)
  unfold ruleV at this
  rw [hql,hqr,hkl,hkr,hqx,hu] at this
  exact this
 have HX1 : Hid (v ≠ 0 → bothE r q = v):=fun h=>by
  unfold bothE
  rw [hv,if_pos h]
 have HX2 : Hid (v = 0 → bothE r q = u):=fun h=>by
  unfold bothE
  rw [hv,if_neg (by simpa using h),hu]
 have HW:=Lib.hid hw1
 have HC:=Lib.hid hc1
 have HBr:=Lib.hid hbr
 have HBq:=Lib.hid hbq
 unfold ruleV
 rw [hnl,hnr,hlr,hrr,hex,hql,hqr,hkl,hkr,hqx]
 clear hw1 hc1 hbr hbq hr hq hnl hnr hlr hrr hex hql hqr hkl hkr hqx hv hu
 go_enter Tryz.func51,Tryz.ntmps51
 have b:=HBr.out
 have b0:=b.c0
 have b1:=b.c1
 have b2:=b.c2
 have b3:=b.c3
 have b4:=b.c4
 clear b
 go_wp2_with fail
 rw [← HW.out]
 refine (KR.out w1 (Calm.refl _)).mono ?_
 rintro e w2 ⟨rfl,hc2⟩
 clear b0 b1 b2 b3 b4
 have HC2:=Lib.hid hc2
 by_cases hv0 : v = 0
 ·subst hv0
  have b:=HBq.out.calm hc2
  have b0:=b.c0
  have b1:=b.c1
  have b2:=b.c2
  have b3:=b.c3
  have b4:=b.c4
  clear b hc2
  go_wp2_with fail
  refine (KQ.out w2 HC2.out).mono ?_
  rintro e w3 ⟨rfl,hc3⟩
  go_wp2_with fail
  go_ret
  exact ⟨by rw [HX2.out (by trivial)];rfl,HC.out.trans (HC2.out.trans hc3)⟩
 ·have hv1 : (v != 0) = true:=by simpa using hv0
  have hv2 : (v == 0) = false:=by rw [beq_eq_false_iff_ne];exact hv0
  have HX:=Lib.hid (HX1.out hv0)
  clear hc2 hv0
  go_wp2_with fail
  go_ret
  exact ⟨by rw [HX.out];rfl,HC.out.trans HC2.out⟩
set_option maxHeartbeats 16000000 in
theorem chain_c (r q : Rule) (a b : Pl) (w : World) (hr : RuleU w a r) (hs : SmallR r) (hq : RuleU w b q) (ht : SmallR q) :
  Calls Tryz.prog 21 #[ruleV a r,ruleV b q] w fun e w'=>NarEnd (chainE r q) w.heap.size e w' ∧ Calm w w':=by
 obtain ⟨nl,hnl⟩ : ∃ nl,r.left.parts.length = nl:=⟨_,rfl⟩
 obtain ⟨nr,hnr⟩ : ∃ nr,r.right.parts.length = nr:=⟨_,rfl⟩
 obtain ⟨lr,hlr⟩ : ∃ lr,r.left.rest = lr:=⟨_,rfl⟩
 obtain ⟨rr,hrr⟩ : ∃ rr,r.right.rest = rr:=⟨_,rfl⟩
 obtain ⟨ex,hex⟩ : ∃ ex,r.excl = ex:=⟨_,rfl⟩
 obtain ⟨ql,hql⟩ : ∃ ql,q.left.parts.length = ql:=⟨_,rfl⟩
 obtain ⟨qr,hqr⟩ : ∃ qr,q.right.parts.length = qr:=⟨_,rfl⟩
 obtain ⟨kl,hkl⟩ : ∃ kl,q.left.rest = kl:=⟨_,rfl⟩
 obtain ⟨kr,hkr⟩ : ∃ kr,q.right.rest = kr:=⟨_,rfl⟩
 obtain ⟨qx,hqx⟩ : ∃ qx,q.excl = qx:=⟨_,rfl⟩
 obtain ⟨w1,hw1⟩ : ∃ w1,w1 = ((w.alloc (.cells #[.bool ex,.slice a.AL nl a.cl,.bool lr,.slice a.AR nr a.cr,.bool rr] 52)).alloc (.cells #[.bool qx,.slice b.AL ql b.cl,.bool kl,.slice b.AR qr b.cr,.bool kr] 52)).alloc (.cells #[.bool false,.slice none 0 0,.bool false,.slice none 0 0,.bool false] 52):=⟨_,rfl⟩
 have hc1 : Calm w w1:=by rw [hw1];exact (((Calm.refl w).alloc _).alloc _).alloc _
 have hbr : FiveB w1 w.heap.size (.bool ex) (.slice a.AL nl a.cl) (.bool lr) (.slice a.AR nr a.cr) (.bool rr):=by
  rw [hw1]
  exact (FiveB.new w _ _ _ _ _ _).calm (((Calm.refl _).alloc _).alloc _)
 have hbq : FiveB w1 (w.heap.size + 1) (.bool qx) (.slice b.AL ql b.cl) (.bool kl) (.slice b.AR qr b.cr) (.bool kr):=by
  rw [hw1]
  have:=(FiveB.new (w.alloc (.cells #[.bool ex,.slice a.AL nl a.cl,.bool lr,.slice a.AR nr a.cr,.bool rr] 52)) (.bool qx) (.slice b.AL ql b.cl) (.bool kl) (.slice b.AR qr b.cr) (.bool kr) 52).calm ((Calm.refl _).alloc (.cells #[.bool false,.slice none 0 0,.bool false,.slice none 0 0,.bool false] 52))
  simpa using this
 have hbz : FiveB w1 (w.heap.size + 1 + 1) (.bool false) (.slice none 0 0) (.bool false) (.slice none 0 0) (.bool false):=by
  rw [hw1]
  have:=FiveB.new ((w.alloc (.cells #[.bool ex,.slice a.AL nl a.cl,.bool lr,.slice a.AR nr a.cr,.bool rr] 52)).alloc (.cells #[.bool qx,.slice b.AL ql b.cl,.bool kl,.slice b.AR qr b.cr,.bool kr] 52)) (.bool false) (.slice none 0 0) (.bool false) (.slice none 0 0) (.bool false) 52
  simpa using this
 obtain ⟨v,hv⟩ : ∃ v,bothE r q = v:=⟨_,rfl⟩
 have KB : Hid (∀ W,Calm w1 W → Calls Tryz.prog 51 #[.agg #[.bool ex,.slice a.AL nl a.cl,.bool lr,.slice a.AR nr a.cr,.bool rr],.agg #[.bool qx,.slice b.AL ql b.cl,.bool kl,.slice b.AR qr b.cr,.bool kr]] W fun e w'=>e = .returned (.int .i64 v) ∧ Calm W w'):=fun W hW=>by
  have:=checkBoth_c r q a b W ((hr.calm hc1).calm hW) ((hq.calm hc1).calm hW)
  unfold ruleV at this
  rw [hnl,hnr,hlr,hrr,hex,hql,hqr,hkl,hkr,hqx,hv] at this
  exact this
 have hv0 : v = 0 → ruleErr r = 0 ∧ ruleErr q = 0:=fun h=>by
  unfold bothE at hv
  by_cases h1 : ruleErr r ≠ 0
  ·rw [if_pos h1] at hv
   exact absurd (hv.trans h) h1
  ·rw [if_neg h1] at hv
   exact ⟨by simpa using h1,hv.trans h⟩
 have hal : PatA w a.AL a.cl r.left:=⟨hr.left hs,hr.lroom,hr.lcap⟩
 have har : PatA w a.AR a.cr r.right:=⟨hr.right hs,hr.rroom,hr.rcap⟩
 have hbl : PatA w b.AL b.cl q.left:=⟨hq.left ht,hq.lroom,hq.lcap⟩
 have hbr2 : PatA w b.AR b.cr q.right:=⟨hq.right ht,hq.rroom,hq.rcap⟩
 have KM1 : Hid (∀ m,v = 0 → meetP r.right q.left = some m → ∀ W,Calm w1 W → Calls Tryz.prog 34 #[.agg #[.slice a.AR nr a.cr,.bool rr],.agg #[.slice b.AL ql b.cl,.bool kl]] W fun e w'=>(∃ A2 c2,e = .returned (.tuple #[.agg #[.slice A2 m.parts.length c2,.bool m.rest],.bool true]) ∧ SmallN w' W.heap.size ⟨A2,c2,m⟩) ∧ Calm W w'):=fun m h0 hm W hW=>by
  have:=meet_yes r.right q.left m a.AR b.AL a.cr b.cl W ((har.calm hc1).calm hW) ((hbl.calm hc1).calm hW) (ruleErr_twin.1 (hv0 h0).1).rp (ruleErr_twin.1 (hv0 h0).2).lp hm
  rw [hnr,hrr,hql,hkl] at this
  exact this
 have KM0 : Hid (v = 0 → meetP r.right q.left = none → ∀ W,Calm w1 W → Calls Tryz.prog 34 #[.agg #[.slice a.AR nr a.cr,.bool rr],.agg #[.slice b.AL ql b.cl,.bool kl]] W fun e w'=>e = .returned (.tuple #[.agg #[.slice none 0 0,.bool false],.bool false]) ∧ Calm W w'):=fun h0 hm W hW=>by
  have:=meet_no r.right q.left a.AR b.AL a.cr b.cl W ((har.calm hc1).calm hW) ((hbl.calm hc1).calm hW) (ruleErr_twin.1 (hv0 h0).1).rp (ruleErr_twin.1 (hv0 h0).2).lp hm
  rw [hnr,hrr,hql,hkl] at this
  exact this
 have KC : Hid (∀ m,v = 0 → meetP r.right q.left = some m → ∀ W A2 c2,Calm w1 W → PatA W A2 c2 m → Calls Tryz.prog 52 #[.agg #[.slice a.AR nr a.cr,.bool rr],.agg #[.slice A2 m.parts.length c2,.bool m.rest],.agg #[.slice a.AL nl a.cl,.bool lr]] W fun e w'=>CarryEnd (carryP r.right r.left m) W.heap.size e w' ∧ Calm W w'):=fun m h0 hm W A2 c2 hW hPm=>
  carry_c r.right m r.left nr m.parts.length nl a.cr c2 a.cl rr m.rest lr a.AR A2 a.AL W (inner_meet (r:=⟨false,r.right,r.left⟩) (ruleErr_twin.2 (ruleErr_twin.1 (hv0 h0).1).turn) hm) ((har.calm hc1).calm hW) hPm ((hal.calm hc1).calm hW) hnr rfl hnl hrr rfl hlr
 have KD : Hid (∀ m,v = 0 → meetP r.right q.left = some m → ∀ W A2 c2,Calm w1 W → PatA W A2 c2 m → Calls Tryz.prog 52 #[.agg #[.slice b.AL ql b.cl,.bool kl],.agg #[.slice A2 m.parts.length c2,.bool m.rest],.agg #[.slice b.AR qr b.cr,.bool kr]] W fun e w'=>CarryEnd (carryP q.left q.right m) W.heap.size e w' ∧ Calm W w'):=fun m h0 hm W A2 c2 hW hPm=>
  carry_c q.left m q.right ql m.parts.length qr b.cl c2 b.cr kl m.rest kr b.AL A2 b.AR W (inner_meet (hv0 h0).2 ((meetP_comm _ _).trans hm)) ((hbl.calm hc1).calm hW) hPm ((hbr2.calm hc1).calm hW) hql rfl hqr hkl rfl hkr
 have HX1 : Hid (v ≠ 0 → chainE r q = (none,v)):=fun h=>by
  unfold chainE
  unfold bothE at hv
  by_cases h1 : ruleErr r ≠ 0
  ·rw [if_pos h1] at hv ⊢
   rw [hv]
  ·rw [if_neg h1] at hv ⊢
   rw [hv,if_pos h]
 have HX3 : Hid (v = 0 → meetP r.right q.left = none → chainE r q = (none,0)):=fun h hm=>by
  unfold chainE
  rw [if_neg (by simpa using (hv0 h).1),if_neg (by simpa using (hv0 h).2),hm]
 have HX4 : Hid (∀ m,v = 0 → meetP r.right q.left = some m → chainE r q = if 12 < (carryP r.right r.left m).parts.length ∨ 12 < (carryP q.left q.right m).parts.length then (none,43) else (some ⟨false,carryP r.right r.left m,carryP q.left q.right m⟩,0)):=fun m h hm=>by
  unfold chainE
  rw [if_neg (by simpa using (hv0 h).1),if_neg (by simpa using (hv0 h).2),hm]
 have HW:=Lib.hid hw1
 have HC:=Lib.hid hc1
 have HBr:=Lib.hid hbr
 have HBq:=Lib.hid hbq
 have HBz:=Lib.hid hbz
 have hsz : w.heap.size + 1 + 1 < w1.heap.size:=hbz.lt
 unfold ruleV
 rw [hnl,hnr,hlr,hrr,hex,hql,hqr,hkl,hkr,hqx]
 clear hw1 hc1 hbr hbq hbz hr hs hq ht hnl hnr hlr hrr hex hql hqr hkl hkr hqx hv hv0 hal har hbl hbr2
 have HC8 : Hid (∀ W,Calm w1 W → ∀ u0 u1 u2 u3 u4,Calm w (set5 W (w.heap.size + 1 + 1) u0 u1 u2 u3 u4)):=fun W hW u0 u1 u2 u3 u4=>calm5 (HC.out.trans hW) (by omega) _ _ _ _ _
 go_enter Tryz.func21,Tryz.ntmps21
 have b:=HBr.out
 have b0:=b.c0
 have b1:=b.c1
 have b2:=b.c2
 have b3:=b.c3
 have b4:=b.c4
 have b:=HBq.out
 have d0:=b.c0
 have d1:=b.c1
 have d2:=b.c2
 have d3:=b.c3
 have d4:=b.c4
 clear b
 go_wp2_with fail
 rw [← HW.out]
 refine (KB.out w1 (Calm.refl _)).mono ?_
 rintro e w3 ⟨rfl,hc3⟩
 clear b0 b1 b2 b3 b4 d0 d1 d2 d3 d4
 have HC3:=Lib.hid hc3
 clear hc3
 by_cases hv0 : v = 0
 ·subst hv0
  have b:=HBr.out.calm HC3.out
  have b3:=b.c3
  have b4:=b.c4
  have b:=HBq.out.calm HC3.out
  have d1:=b.c1
  have d2:=b.c2
  clear b
  rcases hmm : meetP r.right q.left with _ | m
  ·have HX:=Lib.hid (HX3.out (by trivial) hmm)
   have KM:=Lib.hid (KM0.out (by trivial) hmm w3 HC3.out)
   clear hmm
   go_wp2_with fail
   refine KM.out.mono ?_
   rintro e w4 ⟨rfl,hc4⟩
   have hz:=HBz.out.calm ((HC3.out.trans hc4).alloc (.cells #[.slice none 0 0,.bool false] 40))
   have z0:=hz.c0
   have z1:=hz.c1
   have z2:=hz.c2
   have z3:=hz.c3
   have z4:=hz.c4
   have f0:=hz.fz 0
   have f1:=hz.fz 1
   have f2:=hz.fz 2
   have f3:=hz.fz 3
   have f4:=hz.fz 4
   have HC4 : Hid (Calm w1 w4):=HC3.out.trans hc4
   clear hz hc4 b3 b4 d1 d2
   go_wp2_with fail
   refine bodyPost_ret (v:=.tuple #[.agg #[.bool false,.slice none 0 0,.bool false,.slice none 0 0,.bool false],.bool false,.int .i64 0]) ?_ rfl ⟨.inl (by rw [HX.out];exact ⟨rfl,rfl⟩),HC8.out _ (HC4.out.alloc _) _ _ _ _ _⟩
   rw [results_cell_tt rfl]
   go_simp
  ·have hx:=HX4.out m (by trivial) hmm
   have KM:=Lib.hid (KM1.out m (by trivial) hmm w3 HC3.out)
   have KCm:=Lib.hid (KC.out m (by trivial) hmm)
   have KDm:=Lib.hid (KD.out m (by trivial) hmm)
   clear hmm
   obtain ⟨cr,hcr⟩ : ∃ cr,carryP r.right r.left m = cr:=⟨_,rfl⟩
   obtain ⟨dr,hdr⟩ : ∃ dr,carryP q.left q.right m = dr:=⟨_,rfl⟩
   rw [hcr,hdr] at hx
   rw [hcr] at KCm
   rw [hdr] at KDm
   obtain ⟨mn,hmn⟩ : ∃ mn,m.parts.length = mn:=⟨_,rfl⟩
   obtain ⟨mr,hmr⟩ : ∃ mr,m.rest = mr:=⟨_,rfl⟩
   obtain ⟨cn,hcn⟩ : ∃ cn,cr.parts.length = cn:=⟨_,rfl⟩
   obtain ⟨ct,hct⟩ : ∃ ct,cr.rest = ct:=⟨_,rfl⟩
   obtain ⟨dn,hdn⟩ : ∃ dn,dr.parts.length = dn:=⟨_,rfl⟩
   obtain ⟨dt,hdt⟩ : ∃ dt,dr.rest = dt:=⟨_,rfl⟩
   rw [hmn,hmr] at KM KCm KDm
   have HN:=Lib.hid (And.intro hcn (And.intro hct (And.intro hdn hdt)))
   rw [hcn,hdn] at hx
   have HX:=Lib.hid hx
   clear hx hcr hdr hmn hmr hcn hct hdn hdt
   go_wp2_with fail
   refine KM.out.mono ?_
   rintro e w4 ⟨⟨A2,c2,rfl,hSm⟩,hc4⟩
   clear b3 b4 d1 d2
   have HC5 : Hid (Calm w1 (w4.alloc (.cells #[.slice A2 mn c2,.bool mr] 40))):=(HC3.out.trans hc4).alloc _
   have hm:=TwoB.new w4 (.slice A2 mn c2) (.bool mr) 40
   have HSm : Hid (SmallN (w4.alloc (.cells #[.slice A2 mn c2,.bool mr] 40)) w3.heap.size ⟨A2,c2,m⟩):=hSm.calm ((Calm.refl _).alloc _)
   have b:=HBr.out.calm HC5.out
   have b1:=b.c1
   have b2:=b.c2
   have b3:=b.c3
   have b4:=b.c4
   have m0:=hm.c0
   have m1:=hm.c1
   have HMb:=Lib.hid hm
   clear b hm hSm hc4
   go_wp2_with fail
   obtain ⟨w5,hw5⟩ : ∃ w5,w5 = w4.alloc (.cells #[.slice A2 mn c2,.bool mr] 40):=⟨_,rfl⟩
   rw [← hw5] at HC5 HMb HSm ⊢
   obtain ⟨M,hM⟩ : ∃ M,w4.heap.size = M:=⟨_,rfl⟩
   rw [hM] at HMb
   simp only [hM]
   clear hw5 hM b1 b2 b3 b4 m0 m1
   refine (KCm.out w5 A2 c2 HC5.out HSm.out.a).mono ?_
   rintro e w6 ⟨hE,hc6⟩
   have HC6 : Hid (Calm w5 w6):=hc6
   clear hc6
   rcases hE with ⟨h12,rfl⟩ | ⟨h12,A3,c3,rfl,hN3⟩
   ·rw [HN.out.1] at h12
    have HX2' : Hid (chainE r q = (none,43)):=by
     show _ = _
     rw [HX.out,if_pos (.inl h12)]
    have hz:=HBz.out.calm ((HC5.out.trans HC6.out).alloc (.cells #[.slice none 0 0,.bool false] 40))
    have z0:=hz.c0
    have z1:=hz.c1
    have z2:=hz.c2
    have z3:=hz.c3
    have z4:=hz.c4
    have f0:=hz.fz 0
    have f1:=hz.fz 1
    have f2:=hz.fz 2
    have f3:=hz.fz 3
    have f4:=hz.fz 4
    clear hz h12
    go_wp2_with fail
    refine bodyPost_ret (v:=.tuple #[.agg #[.bool false,.slice none 0 0,.bool false,.slice none 0 0,.bool false],.bool false,.int .i64 43]) ?_ rfl ⟨.inl (by rw [HX2'.out];exact ⟨rfl,rfl⟩),HC8.out _ ((HC5.out.trans HC6.out).alloc _) _ _ _ _ _⟩
    rw [results_cell_tt rfl]
    go_simp
   ·rw [HN.out.1] at h12
    rw [HN.out.1,HN.out.2.1]
    have HC7 : Hid (Calm w1 (w6.alloc (.cells #[.slice A3 cn c3,.bool ct] 40))):=(HC5.out.trans HC6.out).alloc _
    have hsz5 : w1.heap.size ≤ w5.heap.size:=HC5.out.size
    have HN3 : Hid (NewS (w6.alloc (.cells #[.slice A3 cn c3,.bool ct] 40)) w5.heap.size A3 c3 cr.parts):=hN3.calm ((Calm.refl _).alloc _)
    have hn:=TwoB.new w6 (.slice A3 cn c3) (.bool ct) 40
    have HNb:=Lib.hid hn
    have HS7 : Hid (PatA (w6.alloc (.cells #[.slice A3 cn c3,.bool ct] 40)) A2 c2 m):=(HSm.out.calm (HC6.out.alloc _)).a
    have hm:=HMb.out.calm (HC6.out.alloc (.cells #[.slice A3 cn c3,.bool ct] 40))
    have m0:=hm.c0
    have m1:=hm.c1
    have b:=HBq.out.calm HC7.out
    have d1:=b.c1
    have d2:=b.c2
    have d3:=b.c3
    have d4:=b.c4
    clear b hm hn hN3
    go_wp2_with fail
    obtain ⟨w7,hw7⟩ : ∃ w7,w7 = w6.alloc (.cells #[.slice A3 cn c3,.bool ct] 40):=⟨_,rfl⟩
    rw [← hw7] at HC7 HNb HN3 HS7 ⊢
    obtain ⟨O,hO⟩ : ∃ O,w6.heap.size = O:=⟨_,rfl⟩
    rw [hO] at HNb
    simp only [hO]
    clear hw7 hO d1 d2 d3 d4 m0 m1
    refine (KDm.out w7 A2 c2 HC7.out HS7.out).mono ?_
    rintro e w8 ⟨hE,hc8⟩
    have HC9 : Hid (Calm w7 w8):=hc8
    clear hc8
    rcases hE with ⟨h13,rfl⟩ | ⟨h13,A4,c4,rfl,hN4⟩
    ·rw [HN.out.2.2.1] at h13
     have HX2' : Hid (chainE r q = (none,43)):=by
      show _ = _
      rw [HX.out,if_pos (.inr h13)]
     have hz:=HBz.out.calm ((HC7.out.trans HC9.out).alloc (.cells #[.slice none 0 0,.bool false] 40))
     have z0:=hz.c0
     have z1:=hz.c1
     have z2:=hz.c2
     have z3:=hz.c3
     have z4:=hz.c4
     have f0:=hz.fz 0
     have f1:=hz.fz 1
     have f2:=hz.fz 2
     have f3:=hz.fz 3
     have f4:=hz.fz 4
     clear hz h12 h13
     go_wp2_with fail
     refine bodyPost_ret (v:=.tuple #[.agg #[.bool false,.slice none 0 0,.bool false,.slice none 0 0,.bool false],.bool false,.int .i64 43]) ?_ rfl ⟨.inl (by rw [HX2'.out];exact ⟨rfl,rfl⟩),HC8.out _ ((HC7.out.trans HC9.out).alloc _) _ _ _ _ _⟩
     rw [results_cell_tt rfl]
     go_simp
    ·rw [HN.out.2.2.1] at h13
     have HX2' : Hid (chainE r q = (some ⟨false,cr,dr⟩,0)):=by
      show _ = _
      rw [HX.out,if_neg (by omega)]
     rw [HN.out.2.2.1,HN.out.2.2.2]
     have hsz7 : w1.heap.size ≤ w7.heap.size:=HC7.out.size
     have HRu : Hid (∀ u0 u1 u2 u3 u4,RuleN (set5 (w8.alloc (.cells #[.slice A4 dn c4,.bool dt] 40)) (w.heap.size + 1 + 1) u0 u1 u2 u3 u4) w.heap.size ⟨A3,c3,A4,c4⟩ ⟨false,cr,dr⟩):=fun u0 u1 u2 u3 u4=>
      ⟨(((HN3.out.calm (HC9.out.alloc _)).mono (show w1.heap.size ≤ _ from hsz5)).set5 hsz _ _ _ _ _).mono (by omega),(((hN4.calm ((Calm.refl _).alloc _)).mono (show w1.heap.size ≤ _ from hsz7)).set5 hsz _ _ _ _ _).mono (by omega)⟩
     have hm:=HNb.out.calm (HC9.out.alloc (.cells #[.slice A4 dn c4,.bool dt] 40))
     have m0:=hm.c0
     have m1:=hm.c1
     have hn:=TwoB.new w8 (.slice A4 dn c4) (.bool dt) 40
     have n0:=hn.c0
     have n1:=hn.c1
     have hz:=HBz.out.calm ((HC7.out.trans HC9.out).alloc (.cells #[.slice A4 dn c4,.bool dt] 40))
     have z0:=hz.c0
     have z1:=hz.c1
     have z2:=hz.c2
     have z3:=hz.c3
     have z4:=hz.c4
     have f0:=hz.fz 0
     have f1:=hz.fz 1
     have f2:=hz.fz 2
     have f3:=hz.fz 3
     have f4:=hz.fz 4
     clear hz h12 h13 hm hn hN4
     go_wp2_with fail
     refine bodyPost_ret (v:=.tuple #[.agg #[.bool false,.slice A3 cn c3,.bool ct,.slice A4 dn c4,.bool dt],.bool true,.int .i64 0]) ?_ rfl ⟨.inr ⟨⟨false,cr,dr⟩,⟨A3,c3,A4,c4⟩,HX2'.out,by unfold ruleV;rw [HN.out.1,HN.out.2.1,HN.out.2.2.1,HN.out.2.2.2],HRu.out _ _ _ _ _⟩,HC8.out _ ((HC7.out.trans HC9.out).alloc _) _ _ _ _ _⟩
     rw [results_cell_tt rfl]
     go_simp
 ·have HX:=Lib.hid (HX1.out hv0)
  have hv1 : (v == 0) = false:=by rw [beq_eq_false_iff_ne];exact hv0
  have hv2 : (v != 0) = true:=by simpa using hv0
  have hz:=HBz.out.calm HC3.out
  have z0:=hz.c0
  have z1:=hz.c1
  have z2:=hz.c2
  have z3:=hz.c3
  have z4:=hz.c4
  have f0:=hz.fz 0
  have f1:=hz.fz 1
  have f2:=hz.fz 2
  have f3:=hz.fz 3
  have f4:=hz.fz 4
  clear hz
  go_wp2_with fail
  refine bodyPost_ret (v:=.tuple #[.agg #[.bool false,.slice none 0 0,.bool false,.slice none 0 0,.bool false],.bool false,.int .i64 v]) ?_ rfl ⟨.inl (by rw [HX.out];exact ⟨rfl,rfl⟩),HC8.out _ HC3.out _ _ _ _ _⟩
  rw [results_cell_tt rfl]
  go_simp
end Go.Proofs.YtnlnclefedohkaaGreatDoor
