/- Facts for the walk of stream.pieces: boxes of one type, the later lines' paths, the piece by piece row. -/
import Derived.Deep.RegionHeld3
import Derived.Deep.DeepCutAuto
import Derived.Deep.CutBlock
import Derived.Test.YtcofdlipapnohaaGreatDoorZPcL
import Derived.Test.YtcofdlipapnohaaGreatDoorZNarW
import Derived.Test.YtcofdlipapnohaaGreatDoorZMapMem
import Derived.Test.YtcofdlipapnohaaGreatDoorZRSameG
import Derived.Test.YtcofdlipapnohaaGreatDoorZGMeet
import Derived.Test.YtcofdlipapnohaaGreatDoorZEdRow
import Derived.Test.YtcofdlipapnohaaGreatDoorZReduceL
import Derived.Test.YtcofdlipapnohaaGreatDoorZMeetP
import Derived.Test.YtcofdlipapnohaaGreatDoorZWalkM
import Derived.Test.YtcofdlipapnohaaGreatDoorZMeetW
import Derived.Test.YtcofdlipapnohaaGreatDoorZHisC
import Derived.Test.YtcofdlipapnohaaGreatDoorZLocate
import Derived.Test.YtcofdlipapnohaaGreatDoorZRegB
set_option linter.unusedVariables false
set_option linter.unusedSimpArgs false
namespace Go.Proofs.YtcofdlipapnohaaGreatDoor.Sy
structure UpMean (up:List Pc) (f:Str→Int × Str):Prop where
 ups:∀p∈up,PcUp p
 cnt:∀c l,pathOf c=some l→underV c=true→cntP up l=if (f c).1=0 then 0 else 1
 each:∀c l,pathOf c=some l→underV c=true→∀p∈up,hasG p.region l=true→p.kind=(f c).1∧(p.kind=3→fwd p.line c=some (f c).2)
structure PcMean (name:Str) (ps:List Pc) (f:Str→Int × Str):Prop where
 ok:∀p∈ps,PcOk p
 own:∀p∈ps,p.kind≠3→p.line.right=storedP p.region.b name
 far:∀c l,pathOf c=some l→underV c=false→cntP ps l=0
 cnt:∀c l,pathOf c=some l→underV c=true→cntP ps l=if (f c).1=0 then 0 else 1
 each:∀c l,pathOf c=some l→underV c=true→∀p∈ps,hasG p.region l=true→p.kind=(f c).1∧fwd p.line c=some (f c).2
theorem PcMean.up {name:Str} {ps:List Pc} {f:Str→Int × Str} (h:PcMean name ps f):UpMean ps f:=⟨fun p hp=>(h.ok p hp).up,h.cnt,fun c l hp hu p hpm hh=>⟨(h.each c l hp hu p hpm hh).1,fun _=>(h.each c l hp hu p hpm hh).2⟩⟩
theorem cntP_pos {ps:List Pc} {l:List Str} {p:Pc} (hp:p∈ps) (h:hasG p.region l=true):0 < cntP ps l:=List.countP_pos_iff.2 ⟨p,hp,h⟩
theorem root_mean:UpMean rootPs (fun _=>(1,[])):=by
 refine⟨root_up,fun c l hp hu=>?_,fun c l hp hu p hpm hh=>?_⟩
 ·have h1:matchS allG.b c=true:=all_match hu
  rw[matchS_path (by decide) hp] at h1
  have h2:hasG allG l=true:=by
   unfold hasG hasL
   rw[h1]
   rfl
  unfold cntP rootPs
  simp[h2]
 ·obtain rfl:=List.mem_singleton.1 hpm
  exact⟨rfl,fun h=>absurd h (by decide)⟩
theorem step_mean {s:Strm} {up out:List Pc} {f:Str→Int × Str} (hn:comp s.name=true) (hl:∀x∈s.paths,lineOk x=true) (hu:UpMean up f) (h:linesPs s.name up s.paths []=some out):PcMean s.name out (fun c=>seeStep s c (f c)):=by
 obtain⟨news,h1,h2,h3,h4⟩:=linesPs_spec hn hu.ups s.paths [] out hl h
 rw[List.nil_append] at h1
 subst h1
 have hlive:∀{c:Str} {x:Line},liveL s.paths c=some x→decLine s.paths c=some x∧x.kind≠4:=fun {c x} hx=>by
  unfold liveL at hx
  rcases hd:decLine s.paths c with _ | y
  ·rw[hd] at hx
   cases hx
  ·rw[hd] at hx
   simp only at hx
   by_cases hk:y.kind=4
   ·rw[if_pos hk] at hx
    cases hx
   ·rw[if_neg hk] at hx
    obtain rfl:=Option.some.inj hx
    exact⟨rfl,hk⟩
 refine⟨fun p hp=>(h2 p hp).1,fun p hp=>(h2 p hp).2,fun c l hp hv=>?_,fun c l hp hv=>?_,fun c l hp hv q hq hh=>?_⟩
 ·rw[h4 c l hp]
  rcases hx:liveL s.paths c with _ | x
  ·rfl
  ·obtain⟨hd,_⟩:=hlive hx
   obtain⟨d1,d2⟩:=decLine_some hd
   rw[line_under (hl x d1) d2] at hv
   cases hv
 ·rw[h4 c l hp]
  rcases hx:liveL s.paths c with _ | x
  ·have h0:(seeStep s c (f c)).1=0:=by
    unfold liveL at hx
    unfold seeStep
    rcases hd:decLine s.paths c with _ | y
    ·rfl
    ·rw[hd] at hx
     simp only at hx ⊢
     by_cases hk:y.kind=4
     ·rw[if_pos (.inr hk)]
     ·rw[if_neg hk] at hx
      cases hx
   show (if (none:Option Line).isSome=true then _ else 0)=if (seeStep s c (f c)).1=0 then 0 else 1
   rw[if_pos h0]
   rfl
  ·obtain⟨hd,hk⟩:=hlive hx
   show (if (some x:Option Line).isSome=true then cntP up l else 0)=if (seeStep s c (f c)).1=0 then 0 else 1
   rw[Option.isSome_some,if_pos rfl,hu.cnt c l hp hv]
   have e:(seeStep s c (f c)).1=0↔(f c).1=0:=by
    unfold seeStep
    rw[hd]
    simp only
    by_cases h0:(f c).1=0
    ·rw[if_pos (.inl h0)]
     exact⟨fun _=>h0,fun _=>rfl⟩
    ·rw[if_neg (fun h=>h.elim h0 hk)]
     refine⟨fun h=>?_,fun h=>absurd h h0⟩
     by_cases k3:(f c).1=3
     ·rw[if_pos k3] at h
      exact h
     ·rw[if_neg k3] at h
      by_cases x3:x.kind=3
      ·rw[if_pos x3] at h
       cases h
      ·rw[if_neg x3] at h
       simp only at h
       split at h <;> cases h
   by_cases h0:(f c).1=0
   ·rw[if_pos h0,if_pos (e.2 h0)]
   ·rw[if_neg h0,if_neg (fun h=>h0 (e.1 h))]
 ·obtain⟨x,hx,p,hpm,hph,hqk,hqs⟩:=h3 c l hp q hq hh
  obtain⟨hd,hk⟩:=hlive hx
  obtain⟨d1,d2⟩:=decLine_some hd
  have hlx:=hl x d1
  obtain⟨pk,ps⟩:=hu.each c l hp hv p hpm hph
  have h0:¬(f c).1=0:=fun h0=>by
   have:=cntP_pos hpm hph
   rw[hu.cnt c l hp hv,if_pos h0] at this
   omega
  show q.kind=(seeStep s c (f c)).1∧fwd q.line c=some (seeStep s c (f c)).2
  rw[hqk,hqs]
  have hno:¬((f c).1=0∨x.kind=4):=fun h=>h.elim h0 hk
  unfold seeStep kindP srcP
  rw[hd]
  simp only[if_neg hno]
  by_cases k3:p.kind=3
  ·have k3':(f c).1=3:=by rw[←pk];exact k3
   simp only[if_pos k3,if_pos k3']
   exact⟨k3'.symm,ps k3⟩
  ·have k3':¬(f c).1=3:=by rw[←pk];exact k3
   simp only[if_neg k3,if_neg k3']
   by_cases x3:x.kind=3
   ·simp only[if_pos x3]
    refine⟨trivial,?_⟩
    have hf:∃t,fwd x.rule c=some t:=by
     unfold fwd
     rw[if_pos (lineOk_import hlx x3).1,hp]
     simp only
     rw[matchS_path (lineOk_path hlx).1 hp] at d2
     rw[if_pos (show matchL x.rule.left l=true from d2)]
     exact⟨_,rfl⟩
    obtain⟨t,ht⟩:=hf
    rw[ht]
    rfl
   ·simp only[if_neg x3]
    refine⟨?_,?_⟩
    ·unfold ownK
     rw[pk]
    ·obtain⟨r,_,_,r3,r4⟩:=under_own hv s.name
     rw[hp] at r3
     obtain rfl:=Option.some.inj r3
     show some (pathStr (s.name :: r))=some (47 :: 47 :: s.name++c.drop 6)
     rw[r4]
theorem pcs_mean {ss:List Strm} (h:Good ss):∀i,i < ss.length→∀ps,pcs ss i=some ps→PcMean (strm ss i).name ps (fun c=>see ss i c):=by
 refine h.above_ind (P:=fun i=>∀ps,pcs ss i=some ps→PcMean (strm ss i).name ps (fun c=>see ss i c)) (fun i hi hp ps hps=>?_) (fun i p hi hp ih ps hps=>?_)
 ·have hn:=(ownErr_zero (h.own i hi)).1
  unfold pcs at hps
  rw[h.none hp] at hps
  have:=step_mean hn (h.lines hi) root_mean (out:=ps) (by simpa[pcsL] using hps)
  have e:(fun c=>see ss i c)=fun c=>seeStep (strm ss i) c (1,[]):=funext fun c=>see_none h hp c
  rw[e]
  exact this
 ·have hn:=(ownErr_zero (h.own i hi)).1
  unfold pcs at hps
  rw[h.some hp] at hps
  unfold pcsL at hps
  rcases hup:pcsL ss (p :: above ss p) with _ | up
  ·rw[hup] at hps
   cases hps
  ·rw[hup] at hps
   simp only at hps
   have:=step_mean hn (h.lines hi) (ih up hup).up hps
   have e:(fun c=>see ss i c)=fun c=>seeStep (strm ss i) c (see ss p c):=funext fun c=>see_some h hp c
   rw[e]
   exact this
def entOfP (p:Pc):Option Ent:=(rightHs p.line p.region.hs).map fun ks=>⟨p.line.right,p.line.left,redL p.line.right ks⟩
def entsP:List Pc→Option (List Ent)
 |[]=>some []
 |p :: r=>match entOfP p with
  |none=>none
  |some e=>(entsP r).map (e :: ·)
def viewI (ss:List Strm) (i:Nat):Option (List Ent):=match pcs ss i with
 |none=>none
 |some ps=>entsP ps
theorem entsP_at:∀{ps:List Pc} {es:List Ent},entsP ps=some es→es.length=ps.length∧∀(k:Nat) p,ps[k]?=some p→∃e,es[k]?=some e∧entOfP p=some e
 |[],es,h=>by
  obtain rfl:=Option.some.inj h
  exact⟨rfl,fun k p hk=>by simp at hk⟩
 |p :: r,es,h=>by
  unfold entsP at h
  rcases he:entOfP p with _ | e
  ·rw[he] at h
   cases h
  ·rw[he] at h
   obtain⟨es',h1,rfl⟩:=Option.map_eq_some_iff.1 h
   obtain⟨h2,h3⟩:=entsP_at h1
   refine⟨by simp[h2],fun k q hk=>?_⟩
   cases k with
   |zero=>
    obtain rfl:p=q:=by simpa using hk
    exact⟨e,rfl,he⟩
   |succ k=>exact h3 k q (by simpa using hk)
end Go.Proofs.YtcofdlipapnohaaGreatDoor.Sy
namespace Go.Proofs.YtcofdlipapnohaaGreatDoor
open Go Sy
theorem carry_twice {p q m m':Pat} (h:Sy.Inner p q m) (hl:(carryP p q m).parts.length≤12) (h':Sy.Inner m (carryP p q m) m'):carryP m (carryP p q m) m'=carryP p q m':=by
 rcases Nat.lt_or_ge m.parts.length m'.parts.length with hlt | hge
 ·have hmr:m.rest=true:=by
   rcases hm:m.rest with _ | _
   ·have:=(h'.norest (by rw[h.crest];exact hm)).2
    omega
   ·rfl
  have hma:matchL m m'.parts=true:=by
   rw[matchL_mR,h'.mr,Bool.and_true]
   unfold reaches
   rw[hmr]
   simpa using hlt
  have e:=h.tr hma
  have hr:((carryP p q m).rest && m'.rest)=(q.rest && m'.rest):=by
   rw[h.crest,hmr,h.rest hmr]
  show (⟨trL m (carryP p q m) m'.parts,(carryP p q m).rest && m'.rest⟩:Pat)=⟨trL p q m'.parts,q.rest && m'.rest⟩
  rw[e,hr]
 ·exact carry_carry h hl h' (by have:=h'.le;omega)
theorem inner_on {p q m m':Pat} (h:Sy.Inner p q m) (h':Sy.Inner m (carryP p q m) m'):Sy.Inner p q m':=⟨h.tw,h'.good,insideP_trans (allOk_of h'.good) (allOk_of h.good) h'.inn h.inn⟩
def LetP (K:Nat) (p:Pat):Prop:=∀x∈p.parts,x.length≤K
theorem redL_let {b:Pat} {ps:List Pat} {K:Nat} (hK:1≤K) (hb:LetP K b) (hp:∀p∈ps,LetP K p):∀k∈redL b ps,LetP K k:=fun k hk=>by
 obtain⟨p,hpm,hm⟩:=meetsL_mem.1 (redL_mem.1 hk).1
 exact meet_each hm hb (hp p hpm) hK
def FromP (l:Rule):Prop:=∃b q,LetP 40 b∧LetP 40 q∧Sy.Inner b q l.left∧l.right=carryP b q l.left∧l.right.parts.length≤12
structure PcZ (p:Pc):Prop where
 b:LetP 40 p.region.b
 h:∀k∈p.region.hs,LetP 40 k
 r:FromP p.line
structure PcZU (p:Pc):Prop where
 b:LetP 40 p.region.b
 h:∀k∈p.region.hs,LetP 40 k
 r:p.kind=3→FromP p.line
theorem PcZ.up {p:Pc} (h:PcZ p):PcZU p:=⟨h.b,h.h,fun _=>h.r⟩
theorem FromP.right {l:Rule} (h:FromP l) (hl:LetP 40 l.left):LetP 80 l.right:=by
 obtain⟨b,q,h1,h2,h3,h4,_⟩:=h
 rw[h4]
 exact carry_each h3 h2 hl
def LineZ (x:Line):Prop:=LetP 40 x.path∧LetP 40 x.frm
theorem ownG_let {x:Line} {r:List Line} (hx:LineZ x) (hr:∀y∈r,LineZ y):LetP 40 (ownG x r).b∧∀k∈(ownG x r).hs,LetP 40 k:=⟨hx.1,redL_let (by decide) hx.1 fun p hp=>by
 obtain⟨y,hy,rfl⟩:=List.mem_map.1 hp
 exact (hr y hy).1⟩
theorem narL_from {r n:Rule} {p:Pat} (h:(narL r p).1=some n) (hr:FromP r):FromP n:=by
 obtain⟨_,_,_,m,_,rfl,h12,hin⟩:=narL_some h
 obtain⟨b,q,h1,h2,h3,h4,h5⟩:=hr
 rw[h4] at hin h5
 have e:=carry_twice h3 h5 hin
 have e2:carryP r.left r.right m=carryP b q m:=by rw[h4];exact e
 exact⟨b,q,h1,h2,inner_on h3 hin,e2,h12⟩
theorem narL_own {b q:Pat} {n:Rule} {p:Pat} (h:(narL ⟨false,b,q⟩ p).1=some n) (hb:LetP 40 b) (hq:LetP 40 q):FromP n:=by
 obtain⟨_,_,_,m,_,rfl,h12,hin⟩:=narL_some h
 exact⟨b,q,hb,hq,hin,rfl,h12⟩
theorem stored_let {p:Pat} {n:Str} (hp:LetP 40 p) (hn:n.length≤40):LetP 40 (storedP p n):=fun x hx=>by
 rcases List.mem_or_eq_of_mem_set hx with h | h
 ·exact hp x h
 ·subst h
  exact hn
theorem narP_z {name:Str} {x:Line} {r:List Line} {p q:Pc} {g:Reg} (hn:comp name=true) (hnl:name.length≤40) (hx:lineOk x=true) (hxz:LineZ x) (hrz:∀y∈r,LineZ y) (hp:PcUp p) (hz:PcZU p) (hg:(meetR (ownG x r) p.region).1=some g) (hq:narP name x p g=some q):PcZ q:=by
 obtain⟨hok,hqg,_,_,_⟩:=narP_ok hn hx hp hg hq
 obtain⟨_,_,_,_,_,m,hm,hgm⟩:=meetR_some hg
 obtain⟨ob,oh⟩:=ownG_let hxz hrz
 have hb:LetP 40 m:=meet_each hm ob hz.b (by decide)
 have hgb:g.b=m:=by rw[hgm];rfl
 have hgh:g.hs=redL m ((ownG x r).hs++p.region.hs):=by rw[hgm];rfl
 refine⟨by rw[hqg,hgb];exact hb,?_,?_⟩
 ·rw[hqg,hgh]
  exact redL_let (by decide) hb fun k hk=>(List.mem_append.1 hk).elim (oh k) (hz.h k)
 ·unfold narP at hq
  by_cases h0:(narL (wideP name x p g) g.b).2≠0
  ·rw[if_pos h0] at hq
   cases hq
  ·rw[if_neg h0] at hq
   obtain rfl:=Option.some.inj hq
   rcases hs:(narL (wideP name x p g) g.b).1 with _ | n
   ·have:=hok.r
    have this:ruleErr (Option.getD (narL (wideP name x p g) g.b).1 zeroR)=0:=this
    have h9:ruleErr zeroR=0:=by
     rw[hs] at this
     exact this
    exact absurd h9 (by decide)
   ·show FromP n
    unfold wideP at hs
    by_cases k3:p.kind=3
    ·rw[if_pos k3] at hs
     exact narL_from hs (hz.r k3)
    ·rw[if_neg k3] at hs
     by_cases x3:x.kind=3
     ·rw[if_pos x3] at hs
      exact narL_own hs hxz.1 hxz.2
     ·rw[if_neg x3] at hs
      have hgl:LetP 40 g.b:=by rw[hgb];exact hb
      exact narL_own hs hgl (stored_let hgl hnl)
theorem stepPs_z {name:Str} {x:Line} {r:List Line} (hn:comp name=true) (hnl:name.length≤40) (hx:lineOk x=true) (hxz:LineZ x) (hrz:∀y∈r,LineZ y) {ups acc out:List Pc} (hu:∀p∈ups,PcUp p∧PcZU p) (h:stepPs name (ownG x r) x ups acc=some out) (ha:∀q∈acc,PcZ q):∀q∈out,PcZ q:=fun q hq=>by
 obtain⟨news,rfl,h2,_⟩:=stepPs_spec hn hx ups acc out (fun p hp=>(hu p hp).1) h
 rcases List.mem_append.1 hq with hq | hq
 ·exact ha q hq
 ·obtain⟨p,hp,g1,g2⟩:=h2 q hq
  exact narP_z hn hnl hx hxz hrz (hu p hp).1 (hu p hp).2 g1 g2
theorem linesPs_z {name:Str} {up:List Pc} (hn:comp name=true) (hnl:name.length≤40) (hu:∀p∈up,PcUp p∧PcZU p):∀(ls:List Line) (acc out:List Pc),(∀x∈ls,lineOk x=true)→(∀x∈ls,LineZ x)→linesPs name up ls acc=some out→(∀q∈acc,PcZ q)→∀q∈out,PcZ q
 |[],acc,out,_,_,h,ha=>by
  obtain rfl:=Option.some.inj h
  exact ha
 |x :: r,acc,out,hl,hz,h,ha=>by
  have hr:∀y∈r,lineOk y=true:=fun y hy=>hl y (List.mem_cons_of_mem _ hy)
  have hrz:∀y∈r,LineZ y:=fun y hy=>hz y (List.mem_cons_of_mem _ hy)
  unfold linesPs at h
  by_cases h4:x.kind=4
  ·rw[if_pos h4] at h
   exact linesPs_z hn hnl hu r acc out hr hrz h ha
  ·rw[if_neg h4] at h
   rcases hs:stepPs name (ownG x r) x up acc with _ | acc'
   ·rw[hs] at h
    cases h
   ·rw[hs] at h
    exact linesPs_z hn hnl hu r acc' out hr hrz h (stepPs_z hn hnl (hl x List.mem_cons_self) (hz x List.mem_cons_self) hrz hu hs ha)
theorem root_z:∀p∈rootPs,PcZU p:=fun p hp=>by
 obtain rfl:=List.mem_singleton.1 hp
 exact⟨by unfold LetP;decide,fun k hk=>(by cases hk),fun h=>absurd h (by decide)⟩
def StrmsZ (ss:List Strm):Prop:=∀s∈ss,∀x∈s.paths,LineZ x
theorem StrmsZ.at_ {ss:List Strm} (h:StrmsZ ss) {i:Nat} (hi:i < ss.length):∀x∈(strm ss i).paths,LineZ x:=h _ (List.mem_of_getElem? (at_strm hi))
theorem pcs_z {ss:List Strm} (h:Sy.Good ss) (hz:StrmsZ ss):∀i,i < ss.length→∀ps,pcs ss i=some ps→∀p∈ps,PcZ p:=by
 refine h.above_ind (P:=fun i=>∀ps,pcs ss i=some ps→∀p∈ps,PcZ p) (fun i hi hp ps hps=>?_) (fun i p hi hp ih ps hps=>?_)
 ·obtain⟨hn,hn2,_⟩:=ownErr_zero (h.own i hi)
  unfold pcs at hps
  rw[h.none hp] at hps
  exact linesPs_z hn (by omega) (fun p hp=>⟨root_up p hp,root_z p hp⟩) _ [] ps (h.lines hi) (hz.at_ hi) (by simpa[pcsL] using hps) (fun q hq=>by cases hq)
 ·obtain⟨hn,hn2,_⟩:=ownErr_zero (h.own i hi)
  have hi2:=parentI_lt hp
  unfold pcs at hps
  rw[h.some hp] at hps
  unfold pcsL at hps
  rcases hup:pcsL ss (p :: above ss p) with _ | up
  ·rw[hup] at hps
   cases hps
  ·rw[hup] at hps
   exact linesPs_z hn (by omega) (fun q hq=>⟨((pcs_mean h p hi2 up hup).ok q hq).up,(ih up hup q hq).up⟩) _ [] ps (h.lines hi) (hz.at_ hi) hps (fun q hq=>by cases hq)
theorem pat_few {p:Pat} (h:patErr p=0):p.parts.length≤300:=by
 have:=(patErr_form h).2.2
 omega
end Go.Proofs.YtcofdlipapnohaaGreatDoor
namespace Go.Proofs.YtcofdlipapnohaaGreatDoor
open Go Go.RowKit Sy
structure NewC where
 A:Option Addr
 c:Nat
 HA:Option Addr
 hc:Nat
 a:Pl
 p:Pc
deriving Inhabited
def encC (x:NewC):List Value:=[.slice x.A x.p.region.b.parts.length x.c,.bool x.p.region.b.rest,.slice x.HA x.p.region.hs.length x.hc,.int .i64 x.p.kind,.bool x.p.line.excl,.slice x.a.AL x.p.line.left.parts.length x.a.cl,.bool x.p.line.left.rest,.slice x.a.AR x.p.line.right.parts.length x.a.cr,.bool x.p.line.right.rest]
theorem encC_len (x:NewC):(encC x).length=9:=rfl
theorem encC_one (x:NewC):∀u∈encC x,u.oneCell'=true:=by simp[encC,Value.oneCell']
theorem info_pc:(Tryz.prog.info? 216).map (fun i=>(i.zero,i.size,i.bytes))=some (some (.agg #[.slice none 0 0,.bool false,.slice none 0 0,.int .i64 0,.bool false,.slice none 0 0,.bool false,.slice none 0 0,.bool false]),9,136):=by kernel_rfl
structure PcN (w:World) (B:Nat) (x:NewC):Prop where
 g:RegN w B x.A x.c x.HA x.hc x.p.region
 r:RuleN w B x.a x.p.line
theorem PcN.calm {w w':World} {B:Nat} {x:NewC} (h:PcN w B x) (hc:Calm w w'):PcN w' B x:=⟨h.g.calm hc,h.r.calm hc⟩
theorem PcN.mono {w:World} {B B':Nat} {x:NewC} (h:PcN w B x) (hB:B'≤B):PcN w B' x:=⟨h.g.mono hB,h.r.mono hB⟩
theorem PcN.own {w w':World} {B:Nat} {x:NewC} (h:PcN w B x) {B0 n K:Nat} {v:Value} {T:TypeId} {xs:List Value} (hT:65≠T) (hS:9≠T) (hown:w.ownsRow B0 T K v n xs) (hg:w.grownBy w' v.ownBlock):PcN w' B x:=
 ⟨h.g.own hT hS hown hg,h.r.grown hS hown hg⟩
structure PcA (w:World) (x:NewC):Prop where
 g:RegA w x.A x.c x.HA x.p.region.b x.p.region.hs
 hroom:x.p.region.hs.length≤x.hc
 hcap:x.hc≤9223372036854775807
 r:RuleU w x.a x.p.line
theorem PcA.calm {w w':World} {x:NewC} (h:PcA w x) (hc:Calm w w'):PcA w' x:=⟨h.g.calm hc,h.hroom,h.hcap,h.r.calm hc⟩
theorem PcN.a {w:World} {B:Nat} {x:NewC} (h:PcN w B x) (hl:x.p.region.hs.length≤16384):PcA w x:=⟨h.g.a hl,h.g.holes.room,h.g.holes.cap,h.r.u⟩
def PcsR (w:World) (A:Option Addr) (ps:List Pc):Prop:=∃zs:List NewC,zs.map (·.p)=ps∧ReadX encC 9 w A zs∧∀z∈zs,PcA w z
theorem PcsR.calm {w w':World} {A:Option Addr} {ps:List Pc} (h:PcsR w A ps) (hc:Calm w w'):PcsR w' A ps:=by
 obtain⟨zs,h1,h2,h3⟩:=h
 exact⟨zs,h1,h2.calm hc,fun z hz=>(h3 z hz).calm hc⟩
structure NineB (w:World) (b o:Nat) (x:NewC):Prop where
 c0:w.cell? ⟨b,o,none⟩=some (.slice x.A x.p.region.b.parts.length x.c)
 c1:w.cell? ⟨b,o+1,none⟩=some (.bool x.p.region.b.rest)
 c2:w.cell? ⟨b,o+2,none⟩=some (.slice x.HA x.p.region.hs.length x.hc)
 c3:w.cell? ⟨b,o+3,none⟩=some (.int .i64 x.p.kind)
 c4:w.cell? ⟨b,o+4,none⟩=some (.bool x.p.line.excl)
 c5:w.cell? ⟨b,o+5,none⟩=some (.slice x.a.AL x.p.line.left.parts.length x.a.cl)
 c6:w.cell? ⟨b,o+6,none⟩=some (.bool x.p.line.left.rest)
 c7:w.cell? ⟨b,o+7,none⟩=some (.slice x.a.AR x.p.line.right.parts.length x.a.cr)
 c8:w.cell? ⟨b,o+8,none⟩=some (.bool x.p.line.right.rest)
theorem PcsR.get {w:World} {A:Option Addr} {ps:List Pc} (h:PcsR w A ps) {k:Nat} (hk:k < ps.length):∃(b o:Nat) (z:NewC),A=some ⟨b,o,none⟩∧b < w.heap.size∧ps[k]?=some z.p∧NineB w b (o+k * 9) z∧PcA w z:=by
 obtain⟨zs,rfl,h2,h3⟩:=h
 rw[List.length_map] at hk
 obtain⟨b,o,hA,hb,hc⟩:=h2 (fun e=>by rw[e] at hk;simp at hk)
 have hz:=List.getElem?_eq_getElem hk
 exact⟨b,o,zs[k],hA,hb,by rw[List.getElem?_map,hz];rfl,⟨hc k _ hz 0 _ rfl,hc k _ hz 1 _ rfl,hc k _ hz 2 _ rfl,hc k _ hz 3 _ rfl,hc k _ hz 4 _ rfl,hc k _ hz 5 _ rfl,hc k _ hz 6 _ rfl,hc k _ hz 7 _ rfl,hc k _ hz 8 _ rfl⟩,h3 _ (List.mem_of_getElem? hz)⟩
def PcsEnd (x:Option (List Pc)) (e:Ending) (w':World):Prop:=
 (x=none∧e=.returned (.tuple #[.slice none 0 0,.int .i64 80])) ∨
 (∃ps A c,x=some ps∧e=.returned (.tuple #[.slice A ps.length c,.int .i64 0])∧PcsR w' A ps∧ps.length≤c∧c≤9223372036854775807)
/-! ### the pieces of one stream on the way -/
structure PcI (T:TypeId) (L:Nat) (w0 wr:World) (v:Value) (zs:List NewC):Prop where
 own:OwnX encC 9 T w0 wr v zs
 each:∀z∈zs,PcN wr w0.heap.size z∧z.p.region.hs.length≤64
 few:zs.length≤L
theorem PcI.nil {T:TypeId} {L:Nat} {w0:World}:PcI T L w0 w0 (.slice none 0 0) []:=⟨OwnX.nil (Calm.refl _),(fun z hz=>by cases hz),Nat.zero_le _⟩
theorem PcI.calm {T:TypeId} {L:Nat} {w0 wr w2:World} {v:Value} {zs:List NewC} (h:PcI T L w0 wr v zs) (hc:Calm wr w2):PcI T L w0 w2 v zs:=⟨h.own.to hc,fun z hz=>⟨(h.each z hz).1.calm hc,(h.each z hz).2⟩,h.few⟩
theorem PcI.add {T:TypeId} {L:Nat} {w0 wr w2 w3:World} {v v2:Value} {zs:List NewC} {z:NewC} (hT:65≠T) (hS:9≠T) (h:PcI T L w0 wr v zs) (hc:Calm wr w2) (hz:PcN w2 w0.heap.size z) (hl:z.p.region.hs.length≤64) (h32:zs.length+1≤L) (hg:w2.grownBy w3 v.ownBlock) (hown:OwnX encC 9 T w0 w3 v2 (zs++[z])):PcI T L w0 w3 v2 (zs++[z]):=by
 refine⟨hown,fun y hy=>?_,by have:=h.few;rw[List.length_append,List.length_singleton];omega⟩
 rcases List.mem_append.1 hy with hy | hy
 ·exact⟨((h.each y hy).1.calm hc).own hT hS (h.own.to hc).own hg,(h.each y hy).2⟩
 ·rw[List.mem_singleton] at hy
  subst hy
  exact⟨hz.own hT hS (h.own.to hc).own hg,hl⟩
theorem PcI.reads {T:TypeId} {L:Nat} {w0 wr:World} {v:Value} {zs:List NewC} (h:PcI T L w0 wr v zs):∃A c,v=.slice A zs.length c∧zs.length≤c∧c≤9223372036854775807∧PcsR wr A (zs.map (·.p)):=by
 have ha:∀z∈zs,PcA wr z:=fun z hz=>(h.each z hz).1.a (by have:=(h.each z hz).2;omega)
 rcases h.own.row encC_len with⟨rfl,h0⟩ | ⟨g,c,rfl,h1,h2,_,hr⟩
 ·subst h0
  exact⟨none,0,rfl,Nat.le_refl _,by omega,[],rfl,fun h=>absurd rfl h,fun y hy=>by cases hy⟩
 ·exact⟨_,c,rfl,h1,h2,zs,rfl,fun _=>⟨g,0,rfl,hr.lt,fun k x hk i u hu=>hr.cell k x hk i u hu⟩,ha⟩
theorem read_newC {T:TypeId} {w:World} {n:Nat} (y:NewC) {gb gh l r:Nat} {gr ex lr rr:Bool} {κ:Int} (hn:w.heap.size=n) (h0:y.p.region.b.parts.length=gb) (h1:y.p.region.b.rest=gr) (h2:y.p.region.hs.length=gh) (h3:y.p.kind=κ) (h4:y.p.line.excl=ex) (h5:y.p.line.left.parts.length=l) (h6:y.p.line.left.rest=lr) (h7:y.p.line.right.parts.length=r) (h8:y.p.line.right.rest=rr) :
  ReadX encC 9 (w.alloc (.cells #[.slice y.A gb y.c,.bool gr,.slice y.HA gh y.hc,.int .i64 κ,.bool ex,.slice y.a.AL l y.a.cl,.bool lr,.slice y.a.AR r y.a.cr,.bool rr] T)) (some ⟨n,0,none⟩) [y]:=fun _=>by
 refine⟨n,0,rfl,by rw[←hn];simp[go_sem],fun k x hk i u hu=>?_⟩
 have hk0:k=0:=by
  have:=(List.getElem?_eq_some_iff.1 hk).1
  simp at this
  exact this
 subst hk0
 obtain rfl:y=x:=by simpa using hk
 subst hn h0 h1 h2 h3 h4 h5 h6 h7 h8
 rw[cell_of_row _ w.heap.size _ _ _ _ (heap_alloc_new w _)]
 simpa[encC] using hu
end Go.Proofs.YtcofdlipapnohaaGreatDoor
namespace Go.Proofs.YtcofdlipapnohaaGreatDoor.Sy
end Go.Proofs.YtcofdlipapnohaaGreatDoor.Sy
namespace Go.Proofs.YtcofdlipapnohaaGreatDoor
open Go Go.RowKit Sy
theorem copy_w (p:Pat) (A:Option Addr) (n c:Nat) (re:Bool) (w:World) (hr:StrsU w A p.parts) (hn:p.parts.length=n) (hre:p.rest=re) :
  Calls Tryz.prog 177 #[.agg #[.slice A n c,.bool re]] w fun e w'=>(∃A2 c2,e=.returned (.agg #[.slice A2 n c2,.bool re])∧NewS w' w.heap.size A2 c2 p.parts)∧Calm w w':=by
 subst hn hre
 exact copy_c p A c w hr
def FixEnd (ls:List Str) (n:Nat) (re:Bool) (B:Nat) (e:Ending) (w':World):Prop:=∃A2 c2,e=.returned (.agg #[.slice A2 n c2,.bool re])∧NewS w' B A2 c2 ls
theorem two_put {w:World} {B:Nat} {z0 z1:Value} (h:TwoB w B z0 z1) (u0 u1:Value):TwoB ((w.setCell ⟨B,0,none⟩ u0).setCell ⟨B,1,none⟩ u1) B u0 u1:=by
 refine⟨by simpa using h.lt,?_,?_,fun o=>by simpa using h.fz o⟩
 ·rw[World.cell?_setCell_other _ _ _ _ (by simp)]
  exact World.cell?_setCell_same' _ _ _ (by rw[h.c0];rfl)
 ·exact World.cell?_setCell_same' _ _ _ (by rw[World.cell?_setCell_other _ _ _ _ (by simp),h.c1];rfl)
theorem two_other {w:World} {B b o:Nat} {z0 z1:Value} (h:TwoB w B z0 z1) (hb:¬b=B) (u:Value):TwoB (w.setCell ⟨b,o,none⟩ u) B z0 z1:=by
 have e:(w.setCell ⟨b,o,none⟩ u).heap[B]?=w.heap[B]?:=Deep.blk_setCell_other _ _ _ _ (fun e=>hb e.symm)
 exact⟨by simpa using h.lt,(World.cell?_of_block (a:=⟨B,0,none⟩) e).trans h.c0,(World.cell?_of_block (a:=⟨B,1,none⟩) e).trans h.c1,fun j=>(World.frozen?_of_block (a:=⟨B,j,none⟩) e).trans (h.fz j)⟩
set_option maxHeartbeats 8000000 in
theorem stored_c (p:Pat) (nm:Str) (A:Option Addr) (n cp:Nat) (re:Bool) (w:World) (hr:StrsR w A p.parts) (hn:p.parts.length=n) (hre:p.rest=re) (hc:nm.length≤16384) (h0:0 < n) :
  Calls Tryz.prog 212 #[.agg #[.slice A n cp,.bool re],.string (bs nm)] w fun e w'=>FixEnd (storedP p nm).parts n re w.heap.size e w'∧Calm w w':=by
 obtain⟨w1,hw1⟩:∃w1,w1=(w.alloc (.cells #[.slice A n cp,.bool re] 65)).alloc (.cells #[.slice none 0 0,.bool false] 65):=⟨_,rfl⟩
 obtain⟨B,hB⟩:∃B,w.heap.size=B:=⟨_,rfl⟩
 have hc1:Calm w w1:=by rw[hw1];exact ((Calm.refl w).alloc _).alloc _
 have hb0:TwoB w1 B (.slice A n cp) (.bool re):=by
  rw[hw1,←hB]
  exact (TwoB.new w _ _ _).calm ((Calm.refl _).alloc _)
 have hb1:TwoB w1 (B+1) (.slice none 0 0) (.bool false):=by
  rw[hw1,←hB]
  have:=TwoB.new (w.alloc (.cells #[.slice A n cp,.bool re] 65)) (.slice none 0 0) (.bool false) 65
  simpa using this
 have hsz:w1.heap.size=B+2:=by rw[hw1,←hB];simp
 have KCp:=copy_w p A n cp re w1 (hr.toU.calm hc1) hn hre
 have hns:n≤16384:=by rw[←hn];exact hr.len
 have HW:=Lib.hid hw1
 have HBs:=Lib.hid hB
 have HC:=Lib.hid hc1
 have HB0:=Lib.hid hb0
 have HB1:=Lib.hid hb1
 have HN:=Lib.hid hn
 have HSz:=Lib.hid hsz
 clear hr hn hre hw1 hB hc1 hb0 hb1 hsz
 go_enter Tryz.func212,Tryz.ntmps212
 go_wp2_with fail
 rw[←HW.out,HBs.out]
 refine KCp.mono ?_
 rintro e w2 ⟨⟨A2,c2,rfl,hN2⟩,hc2⟩
 have hN:Hid (NewS w2 (B+2) A2 c2 p.parts):=hN2.mono (by have:=HSz.out;omega)
 obtain⟨g,o,x,rfl,hBg,hx,hxl,hcx⟩:=hN.out.get (k:=0) (by rw[HN.out];exact h0)
 rw[Nat.add_zero] at hcx
 have hfr:=hN.out.free o
 have b2:=HB0.out.calm hc2
 have b3:=HB1.out.calm hc2
 have z0:=b2.c0
 have z1:=b2.c1
 have f0:=b2.fz 0
 have f1:=b2.fz 1
 have e0:=b3.c0
 have e1:=b3.c1
 have g0:=b3.fz 0
 have g1:=b3.fz 1
 have n0:¬g=B:=by omega
 have n1:¬B=g:=by omega
 have n2:¬g=B+1:=by omega
 have n3:¬B+1=g:=by omega
 have H2:Hid (TwoB w2 B (.slice (some ⟨g,o,none⟩) n cp) (.bool re)∨True):=.inr trivial
 have HB2:=Lib.hid b2
 have HB3:=Lib.hid b3
 have HC2:=Lib.hid hc2
 clear hN2 hx hxl hc2 b2 b3 H2
 go_wp2_with fail
 have hset:NewS ((((w2.setCell ⟨B,0,none⟩ (.slice (some ⟨g,o,none⟩) n c2)).setCell ⟨B,1,none⟩ (.bool re))).setCell ⟨g,o+0,none⟩ (.string (bs nm))) (B+2) (some ⟨g,o,none⟩) c2 (p.parts.set 0 nm):=
  ((hN.out.set (p:=⟨B,0,none⟩) _ (by show B < B+2;omega)).set (p:=⟨B,1,none⟩) _ (by show B < B+2;omega)).put (by rw[HN.out];exact h0) (by omega)
 have hb4:=two_put (two_other (o:=o) (two_other (o:=1) (two_other (o:=0) HB3.out (by omega) (.slice (some ⟨g,o,none⟩) n c2)) (by omega) (.bool re)) n2 (.string (bs nm))) (.slice (some ⟨g,o,none⟩) n c2) (.bool re)
 have q0:=hb4.c0
 have q1:=hb4.c1
 refine bodyPost_ret (v:=.agg #[.slice (some ⟨g,o,none⟩) n c2,.bool re]) ?_ rfl ⟨⟨_,_,rfl,?_⟩,?_⟩
 ·rw[results_cell1 rfl]
  go_simp
 ·exact ((hset.set (p:=⟨B+1,0,none⟩) _ (by show B+1 < B+2;omega)).set (p:=⟨B+1,1,none⟩) _ (by show B+1 < B+2;omega)).mono (by have:=HBs.out;omega)
 ·exact Below.setCell (p:=⟨B+1,1,none⟩) (Below.setCell (p:=⟨B+1,0,none⟩) (Below.setCell (p:=⟨g,o,none⟩) (Below.setCell (p:=⟨B,1,none⟩) (Below.setCell (p:=⟨B,0,none⟩) (HC.out.trans HC2.out) (by have:=HBs.out;show w.heap.size≤B;omega) _) (by have:=HBs.out;show w.heap.size≤B;omega) _) (by have:=HBs.out;show w.heap.size≤g;omega) _) (by have:=HBs.out;show w.heap.size≤B+1;omega) _) (by have:=HBs.out;show w.heap.size≤B+1;omega) _
end Go.Proofs.YtcofdlipapnohaaGreatDoor
namespace Go.Proofs.YtcofdlipapnohaaGreatDoor.Sy
def contP (name:Str) (up:List Pc) (own:Reg) (x:Line) (rest:List Line) (ups acc:List Pc):Option (List Pc):=match stepPs name own x ups acc with
 |none=>none
 |some acc'=>linesPs name up rest acc'
theorem contP_fail {name:Str} {up:List Pc} {own:Reg} {x:Line} {rest:List Line} {p:Pc} {ups acc:List Pc} (h:(meetR own p.region).2≠0):contP name up own x rest (p :: ups) acc=none:=by
 unfold contP stepPs
 rw[if_pos h]
theorem contP_skip {name:Str} {up:List Pc} {own:Reg} {x:Line} {rest:List Line} {p:Pc} {ups acc:List Pc} (h:(meetR own p.region).2=0) (h1:(meetR own p.region).1=none):contP name up own x rest (p :: ups) acc=contP name up own x rest ups acc:=by
 unfold contP
 conv=>lhs;unfold stepPs
 rw[if_neg (by simpa using h),h1]
theorem contP_stop {name:Str} {up:List Pc} {own:Reg} {x:Line} {rest:List Line} {p:Pc} {ups acc:List Pc} {g:Reg} (h:(meetR own p.region).2=0) (h1:(meetR own p.region).1=some g) (h2:narP name x p g=none∨acc.length=32):contP name up own x rest (p :: ups) acc=none:=by
 unfold contP
 conv=>lhs;unfold stepPs
 rw[if_neg (by simpa using h),h1]
 rcases hn:narP name x p g with _ | q
 ·simp only[hn]
 ·rcases h2 with h2 | h2
  ·rw[hn] at h2
   cases h2
  ·simp only[hn]
   rw[if_pos h2]
theorem contP_add {name:Str} {up:List Pc} {own:Reg} {x:Line} {rest:List Line} {p q:Pc} {ups acc:List Pc} {g:Reg} (h:(meetR own p.region).2=0) (h1:(meetR own p.region).1=some g) (h2:narP name x p g=some q) (h3:acc.length≠32):contP name up own x rest (p :: ups) acc=contP name up own x rest ups (acc++[q]):=by
 unfold contP
 conv=>lhs;unfold stepPs
 rw[if_neg (by simpa using h),h1]
 simp only[h2]
 rw[if_neg h3]
theorem linesPs_excl {name:Str} {up:List Pc} {x:Line} {r:List Line} {acc:List Pc} (h:x.kind=4):linesPs name up (x :: r) acc=linesPs name up r acc:=by
 conv=>lhs;unfold linesPs
 rw[if_pos h]
theorem linesPs_go {name:Str} {up:List Pc} {x:Line} {r:List Line} {acc:List Pc} (h:x.kind≠4):linesPs name up (x :: r) acc=contP name up (ownG x r) x r up acc:=by
 conv=>lhs;unfold linesPs
 rw[if_neg h]
 rfl
end Go.Proofs.YtcofdlipapnohaaGreatDoor.Sy
namespace Go.Proofs.YtcofdlipapnohaaGreatDoor
open Go Go.RowKit Sy
theorem NewS.setCells {B b c:Nat} {A:Option Addr} {ls:List Str} (hb:b < B):∀(us:List Value) (o:Nat) {w:World},NewS w B A c ls→NewS (w.setCells b o us) B A c ls
 |[],_,_,h=>h
 |v :: r,o,w,h=>NewS.setCells hb r (o+1) (h.set (p:=⟨b,o,none⟩) v hb)
theorem RuleN.setCells {w:World} {B b:Nat} {a:Pl} {r:Rule} (h:RuleN w B a r) (hb:b < B) (us:List Value) (o:Nat):RuleN (w.setCells b o us) B a r:=⟨h.l.setCells hb us o,h.r.setCells hb us o⟩
abbrev set9 (w:World) (b:Nat) (u0 u1 u2 u3 u4 u5 u6 u7 u8:Value):World:=((((((((w.setCell ⟨b,0,none⟩ u0).setCell ⟨b,1,none⟩ u1).setCell ⟨b,2,none⟩ u2).setCell ⟨b,3,none⟩ u3).setCell ⟨b,4,none⟩ u4).setCell ⟨b,5,none⟩ u5).setCell ⟨b,6,none⟩ u6).setCell ⟨b,7,none⟩ u7).setCell ⟨b,8,none⟩ u8
theorem NewS.set9 {w:World} {B b c:Nat} {A:Option Addr} {ls:List Str} (h:NewS w B A c ls) (hb:b < B) (u0 u1 u2 u3 u4 u5 u6 u7 u8:Value):NewS (Go.Proofs.YtcofdlipapnohaaGreatDoor.set9 w b u0 u1 u2 u3 u4 u5 u6 u7 u8) B A c ls:=
 ((((((((h.set (p:=⟨b,0,none⟩) u0 hb).set (p:=⟨b,1,none⟩) u1 hb).set (p:=⟨b,2,none⟩) u2 hb).set (p:=⟨b,3,none⟩) u3 hb).set (p:=⟨b,4,none⟩) u4 hb).set (p:=⟨b,5,none⟩) u5 hb).set (p:=⟨b,6,none⟩) u6 hb).set (p:=⟨b,7,none⟩) u7 hb).set (p:=⟨b,8,none⟩) u8 hb
theorem RuleN.set9 {w:World} {B b:Nat} {a:Pl} {r:Rule} (h:RuleN w B a r) (hb:b < B) (u0 u1 u2 u3 u4 u5 u6 u7 u8:Value):RuleN (Go.Proofs.YtcofdlipapnohaaGreatDoor.set9 w b u0 u1 u2 u3 u4 u5 u6 u7 u8) B a r:=⟨h.l.set9 hb _ _ _ _ _ _ _ _ _,h.r.set9 hb _ _ _ _ _ _ _ _ _⟩
theorem calm9 {w0 w:World} {b:Nat} (h:Calm w0 w) (hb:w0.heap.size≤b) (u0 u1 u2 u3 u4 u5 u6 u7 u8:Value):Calm w0 (set9 w b u0 u1 u2 u3 u4 u5 u6 u7 u8):=
 Below.setCell (p:=⟨b,8,none⟩) (Below.setCell (p:=⟨b,7,none⟩) (Below.setCell (p:=⟨b,6,none⟩) (Below.setCell (p:=⟨b,5,none⟩) (Below.setCell (p:=⟨b,4,none⟩) (Below.setCell (p:=⟨b,3,none⟩) (Below.setCell (p:=⟨b,2,none⟩) (Below.setCell (p:=⟨b,1,none⟩) (Below.setCell (p:=⟨b,0,none⟩) h hb _) hb _) hb _) hb _) hb _) hb _) hb _) hb _) hb _
def NarwEnd (x:Option Pc) (A:Option Addr) (c:Nat) (HA:Option Addr) (hc:Nat) (B:Nat) (e:Ending) (w':World):Prop:=
 (x=none∧e=.returned (.tuple #[.agg #[.slice none 0 0,.bool false,.slice none 0 0,.int .i64 0,.bool false,.slice none 0 0,.bool false,.slice none 0 0,.bool false],.int .i64 80])) ∨
 (∃q a,x=some q∧e=.returned (.tuple #[.agg (encC ⟨A,c,HA,hc,a,q⟩).toArray,.int .i64 0])∧RuleN w' B a q.line)
theorem narP_cases {nm:Str} {x:Line} {p:Pc} {g:Reg}:((narL (wideP nm x p g) g.b).2≠0∧narP nm x p g=none)∨((narL (wideP nm x p g) g.b).2=0∧narP nm x p g=some ⟨g,kindP x p,((narL (wideP nm x p g) g.b).1).getD zeroR⟩):=by
 unfold narP
 by_cases h:(narL (wideP nm x p g) g.b).2≠0
 ·exact .inl ⟨h,by rw[if_pos h]⟩
 ·exact .inr ⟨by simpa using h,by rw[if_neg h]⟩
theorem narEnd_any {X:Option Rule × Int} {B:Nat} {e:Ending} {w':World} (h:NarEnd X B e w'):∃a2 r2 okb er,e=.returned (.tuple #[ruleV a2 r2,.bool okb,.int .i64 er])∧RuleN w' B a2 r2∧X.1.getD zeroR=r2∧X.2=er:=by
 rcases h with⟨h1,h2⟩ | ⟨n,a,rfl,h2,h3⟩
 ·exact⟨⟨none,0,none,0⟩,zeroR,false,X.2,h2,⟨NewS.nil _ _,NewS.nil _ _⟩,by rw[h1];rfl,rfl⟩
 ·exact⟨a,n,true,0,h2,h3,rfl,rfl⟩
abbrev zero5:List Value:=[.bool false,.slice none 0 0,.bool false,.slice none 0 0,.bool false]
abbrev zero9:List Value:=[.slice none 0 0,.bool false,.slice none 0 0,.int .i64 0,.bool false,.slice none 0 0,.bool false,.slice none 0 0,.bool false]
structure WideAt (w wx:World) (B2 B3 B4:Nat) (y:NewG) (n m:Nat) (re:Bool) (wd:Rule) (a3:Pl) (l r:Nat) (lr rr ex:Bool):Prop where
 calm:Calm w wx
 g:CellsB wx B2 [.slice y.A n y.c,.bool re,.slice y.HA m y.hc]
 z:CellsB wx B3 zero9
 wide:CellsB wx B4 [.bool ex,.slice a3.AL l a3.cl,.bool lr,.slice a3.AR r a3.cr,.bool rr]
 u:RuleU wx a3 wd
 nn:wd.left.parts.length=l∧wd.right.parts.length=r∧wd.left.rest=lr∧wd.right.rest=rr∧wd.excl=ex
theorem wide_of {w w1 W:World} {B2 B3 B4:Nat} {y:NewG} {n m:Nat} {re:Bool} {wd:Rule} {a3:Pl} {l r:Nat} {lr rr ex:Bool} (hW:Calm w1 W) (h1:Calm w w1) (hg:CellsB w1 B2 [.slice y.A n y.c,.bool re,.slice y.HA m y.hc]) (hz:CellsB w1 B3 zero9) (hw:CellsB w1 B4 zero5) (h2:B4≠B2) (h3:B4≠B3) (h4:w.heap.size≤B4) (hu:∀u0 u1 u2 u3 u4,RuleU (set5 W B4 u0 u1 u2 u3 u4) a3 wd)
  (nn:wd.left.parts.length=l∧wd.right.parts.length=r∧wd.left.rest=lr∧wd.right.rest=rr∧wd.excl=ex):WideAt w (set5 W B4 (.bool ex) (.slice a3.AL l a3.cl) (.bool lr) (.slice a3.AR r a3.cr) (.bool rr)) B2 B3 B4 y n m re wd a3 l r lr rr ex:=
 ⟨calm5 (h1.trans hW) h4 _ _ _ _ _,(hg.calm hW).other h2 [.bool ex,.slice a3.AL l a3.cl,.bool lr,.slice a3.AR r a3.cr,.bool rr],(hz.calm hW).other h3 [.bool ex,.slice a3.AL l a3.cl,.bool lr,.slice a3.AR r a3.cr,.bool rr],(hw.calm hW).put [.bool ex,.slice a3.AL l a3.cl,.bool lr,.slice a3.AR r a3.cr,.bool rr] rfl,hu _ _ _ _ _,nn⟩
set_option maxRecDepth 100000 in
set_option maxHeartbeats 8000000 in
theorem narrowed_c (nm:Str) (x:Line) (a:Pl) (z:NewC) (y:NewG) (κ pk:Int) (np nf gb gh l r n m:Nat) (rp rf gr ex lr rr re:Bool) (w:World) (hx:RuleU w a x.rule) (hz:RuleU w z.a z.p.line) (hy:PatA w y.A y.c y.g.b) (h0:0 < n) (hnm:nm.length≤16384) (hs:SmallR (wideP nm x z.p y.g))
  (hx1:x.kind=κ∧x.path.parts.length=np∧x.frm.parts.length=nf∧x.path.rest=rp∧x.frm.rest=rf) (hpk:z.p.kind=pk) (hz1:z.p.line.left.parts.length=l∧z.p.line.right.parts.length=r∧z.p.line.left.rest=lr∧z.p.line.right.rest=rr∧z.p.line.excl=ex)
  (hn:y.g.b.parts.length=n) (hm:y.g.hs.length=m) (hre:y.g.b.rest=re) :
  Calls Tryz.prog 171 #[.string (bs nm),.agg #[.int .i64 κ,.slice a.AL np a.cl,.bool rp,.slice a.AR nf a.cr,.bool rf],.agg #[.slice z.A gb z.c,.bool gr,.slice z.HA gh z.hc,.int .i64 pk,.bool ex,.slice z.a.AL l z.a.cl,.bool lr,.slice z.a.AR r z.a.cr,.bool rr],.agg #[.slice y.A n y.c,.bool re,.slice y.HA m y.hc]] w fun e w'=>NarwEnd (narP nm x z.p y.g) y.A y.c y.HA y.hc w.heap.size e w'∧Calm w w':=by
 obtain⟨w1,hw1⟩:∃w1,w1=((((w.alloc (.cells #[.int .i64 κ,.slice a.AL np a.cl,.bool rp,.slice a.AR nf a.cr,.bool rf] 68)).alloc (.cells #[.slice z.A gb z.c,.bool gr,.slice z.HA gh z.hc,.int .i64 pk,.bool ex,.slice z.a.AL l z.a.cl,.bool lr,.slice z.a.AR r z.a.cr,.bool rr] 216)).alloc (.cells #[.slice y.A n y.c,.bool re,.slice y.HA m y.hc] 214)).alloc (.cells #[.slice none 0 0,.bool false,.slice none 0 0,.int .i64 0,.bool false,.slice none 0 0,.bool false,.slice none 0 0,.bool false] 216)).alloc (.cells #[.bool false,.slice none 0 0,.bool false,.slice none 0 0,.bool false] 158):=⟨_,rfl⟩
 have hc1:Calm w w1:=by rw[hw1];exact (((((Calm.refl w).alloc _).alloc _).alloc _).alloc _).alloc _
 obtain⟨P0,e0⟩:∃P0,w.heap.size=P0:=⟨_,rfl⟩
 obtain⟨P1,e1⟩:∃P1,P0+1=P1:=⟨_,rfl⟩
 obtain⟨P2,e2⟩:∃P2,P1+1=P2:=⟨_,rfl⟩
 obtain⟨P3,e3⟩:∃P3,P2+1=P3:=⟨_,rfl⟩
 obtain⟨P4,e4⟩:∃P4,P3+1=P4:=⟨_,rfl⟩
 have hb0:CellsB w1 P0 [.int .i64 κ,.slice a.AL np a.cl,.bool rp,.slice a.AR nf a.cr,.bool rf]:=by
  rw[hw1,←e0]
  exact (CellsB.new w _ _).calm ((((Calm.refl _).alloc _).alloc _).alloc _ |>.alloc _)
 have hb1:CellsB w1 P1 [.slice z.A gb z.c,.bool gr,.slice z.HA gh z.hc,.int .i64 pk,.bool ex,.slice z.a.AL l z.a.cl,.bool lr,.slice z.a.AR r z.a.cr,.bool rr]:=by
  rw[hw1,←e1,←e0]
  have:=(CellsB.new (w.alloc (.cells #[.int .i64 κ,.slice a.AL np a.cl,.bool rp,.slice a.AR nf a.cr,.bool rf] 68)) #[.slice z.A gb z.c,.bool gr,.slice z.HA gh z.hc,.int .i64 pk,.bool ex,.slice z.a.AL l z.a.cl,.bool lr,.slice z.a.AR r z.a.cr,.bool rr] 216).calm ((((Calm.refl _).alloc (.cells #[.slice y.A n y.c,.bool re,.slice y.HA m y.hc] 214)).alloc (.cells #[.slice none 0 0,.bool false,.slice none 0 0,.int .i64 0,.bool false,.slice none 0 0,.bool false,.slice none 0 0,.bool false] 216)).alloc (.cells #[.bool false,.slice none 0 0,.bool false,.slice none 0 0,.bool false] 158))
  rwa [World.size_alloc] at this
 have hb2:CellsB w1 P2 [.slice y.A n y.c,.bool re,.slice y.HA m y.hc]:=by
  rw[hw1,←e2,←e1,←e0]
  have:=(CellsB.new ((w.alloc (.cells #[.int .i64 κ,.slice a.AL np a.cl,.bool rp,.slice a.AR nf a.cr,.bool rf] 68)).alloc (.cells #[.slice z.A gb z.c,.bool gr,.slice z.HA gh z.hc,.int .i64 pk,.bool ex,.slice z.a.AL l z.a.cl,.bool lr,.slice z.a.AR r z.a.cr,.bool rr] 216)) #[.slice y.A n y.c,.bool re,.slice y.HA m y.hc] 214).calm (((Calm.refl _).alloc (.cells #[.slice none 0 0,.bool false,.slice none 0 0,.int .i64 0,.bool false,.slice none 0 0,.bool false,.slice none 0 0,.bool false] 216)).alloc (.cells #[.bool false,.slice none 0 0,.bool false,.slice none 0 0,.bool false] 158))
  rwa [World.size_alloc,World.size_alloc] at this
 have hb3:CellsB w1 P3 zero9:=by
  rw[hw1,←e3,←e2,←e1,←e0]
  have:=(CellsB.new (((w.alloc (.cells #[.int .i64 κ,.slice a.AL np a.cl,.bool rp,.slice a.AR nf a.cr,.bool rf] 68)).alloc (.cells #[.slice z.A gb z.c,.bool gr,.slice z.HA gh z.hc,.int .i64 pk,.bool ex,.slice z.a.AL l z.a.cl,.bool lr,.slice z.a.AR r z.a.cr,.bool rr] 216)).alloc (.cells #[.slice y.A n y.c,.bool re,.slice y.HA m y.hc] 214)) #[.slice none 0 0,.bool false,.slice none 0 0,.int .i64 0,.bool false,.slice none 0 0,.bool false,.slice none 0 0,.bool false] 216).calm ((Calm.refl _).alloc (.cells #[.bool false,.slice none 0 0,.bool false,.slice none 0 0,.bool false] 158))
  rwa [World.size_alloc,World.size_alloc,World.size_alloc] at this
 have hb4:CellsB w1 P4 zero5:=by
  rw[hw1,←e4,←e3,←e2,←e1,←e0]
  have:=CellsB.new ((((w.alloc (.cells #[.int .i64 κ,.slice a.AL np a.cl,.bool rp,.slice a.AR nf a.cr,.bool rf] 68)).alloc (.cells #[.slice z.A gb z.c,.bool gr,.slice z.HA gh z.hc,.int .i64 pk,.bool ex,.slice z.a.AL l z.a.cl,.bool lr,.slice z.a.AR r z.a.cr,.bool rr] 216)).alloc (.cells #[.slice y.A n y.c,.bool re,.slice y.HA m y.hc] 214)).alloc (.cells #[.slice none 0 0,.bool false,.slice none 0 0,.int .i64 0,.bool false,.slice none 0 0,.bool false,.slice none 0 0,.bool false] 216)) #[.bool false,.slice none 0 0,.bool false,.slice none 0 0,.bool false] 158
  rwa [World.size_alloc,World.size_alloc,World.size_alloc,World.size_alloc] at this
 obtain⟨wd,hwd⟩:∃wd,wideP nm x z.p y.g=wd:=⟨_,rfl⟩
 obtain⟨kk,hkk⟩:∃kk,kindP x z.p=kk:=⟨_,rfl⟩
 have hcs:=narP_cases (nm:=nm) (x:=x) (p:=z.p) (g:=y.g)
 rw[hwd,hkk] at hcs
 rw[hwd] at hs
 have KN:Hid (∀(W:World) (a3:Pl) (l3 r3:Nat) (lr3 rr3 ex3:Bool),Calm w W→RuleU W a3 wd→wd.left.parts.length=l3∧wd.right.parts.length=r3∧wd.left.rest=lr3∧wd.right.rest=rr3∧wd.excl=ex3→Calls Tryz.prog 213 #[.agg #[.bool ex3,.slice a3.AL l3 a3.cl,.bool lr3,.slice a3.AR r3 a3.cr,.bool rr3],.agg #[.slice y.A n y.c,.bool re]] W fun e w'=>NarEnd (narL wd y.g.b) W.heap.size e w'∧Calm W w'):=fun W a3 l3 r3 lr3 rr3 ex3 hW hU hnn=>by
  have:=nleft_c wd y.g.b a3 n y.c re y.A W hU hs (hy.calm hW) hn hre
  unfold ruleV at this
  rw[hnn.1,hnn.2.1,hnn.2.2.1,hnn.2.2.2.1,hnn.2.2.2.2] at this
  exact this
 have KS:Hid (∀W,Calm w1 W→Calls Tryz.prog 212 #[.agg #[.slice y.A n y.c,.bool re],.string (bs nm)] W fun e w'=>(∃A2 c2,e=.returned (.agg #[.slice A2 n c2,.bool re])∧NewS w' w1.heap.size A2 c2 (storedP y.g.b nm).parts)∧Calm W w'):=fun W hW=>by
  refine (stored_c y.g.b nm y.A n y.c re W ((hy.calm hc1).calm hW).r hn hre hnm h0).mono ?_
  rintro e w' ⟨⟨A2,c2,he,hN⟩,hc⟩
  exact⟨⟨A2,c2,he,hN.mono hW.size⟩,hc⟩
 have HW:=Lib.hid hw1
 have HE:=Lib.hid (And.intro e0 (And.intro e1 (And.intro e2 (And.intro e3 e4))))
 have HC:=Lib.hid hc1
 have HB2:=Lib.hid hb2
 have HB3:=Lib.hid hb3
 have HB4:=Lib.hid hb4
 have HX1:=Lib.hid hx1
 have HPk:=Lib.hid hpk
 have HZ1:=Lib.hid hz1
 have HN:=Lib.hid (And.intro hn (And.intro hm hre))
 have HWd:=Lib.hid hwd
 have HKk:=Lib.hid hkk
 have HCs:=Lib.hid hcs
 have HX:=Lib.hid hx
 have HZ:=Lib.hid hz
 have HY:=Lib.hid hy
 have hlt:=hb4.lt
 have l0:=hb0.at_ 0 _ rfl
 have l1:=hb0.at_ 1 _ rfl
 have l2:=hb0.at_ 2 _ rfl
 have l3:=hb0.at_ 3 _ rfl
 have l4:=hb0.at_ 4 _ rfl
 have p3:=hb1.at_ 3 _ rfl
 have p4:=hb1.at_ 4 _ rfl
 have p5:=hb1.at_ 5 _ rfl
 have p6:=hb1.at_ 6 _ rfl
 have p7:=hb1.at_ 7 _ rfl
 have p8:=hb1.at_ 8 _ rfl
 have z0:=hb4.at_ 0 _ rfl
 have z1:=hb4.at_ 1 _ rfl
 have z2:=hb4.at_ 2 _ rfl
 have z3:=hb4.at_ 3 _ rfl
 have z4:=hb4.at_ 4 _ rfl
 have f0:=hb4.fz 0
 have f1:=hb4.fz 1
 have f2:=hb4.fz 2
 have f3:=hb4.fz 3
 have f4:=hb4.fz 4
 clear hx hz hy hs hx1 hpk hz1 hn hm hre hw1 hc1 e0 e1 e2 e3 e4 hb0 hb1 hb2 hb3 hb4 hwd hkk hcs
 go_enter Tryz.func171,Tryz.ntmps171
 go_upto_block 0 with (fail)
 rw[←HW.out]
 simp only[HE.out.1,HE.out.2.1,HE.out.2.2.1,HE.out.2.2.2.1,HE.out.2.2.2.2]
 go_cut [11] (fun s wx=>∃a3 l3 r3 lr3 rr3 ex3,s=.int .i64 kk∧Hid (WideAt w wx P2 P3 P4 y n m re wd a3 l3 r3 lr3 rr3 ex3))
 case first=>
  have q2:P4≠P2:=by have:=HE.out;omega
  have q3:P4≠P3:=by have:=HE.out;omega
  have q0:w.heap.size≤P4:=by have:=HE.out;omega
  by_cases hk3:pk=3
  ·subst hk3
   have HK:Hid (kk=3):=by
    show kk=3
    rw[←HKk.out]
    unfold kindP
    rw[if_pos HPk.out]
   have HD:Hid (wd=z.p.line):=by
    show wd=_
    rw[←HWd.out]
    unfold wideP
    rw[if_pos HPk.out]
   have HU:=Lib.hid (fun u0 u1 u2 u3 u4=>HZ.out.calm (calm5 HC.out q0 u0 u1 u2 u3 u4))
   have HQ:=Lib.hid (And.intro q2 (And.intro q3 q0))
   clear q2 q3 q0
   go_wp2_with fail
   go_meet
   case rel=>exact⟨z.a,l,r,lr,rr,ex,by rw[HK.out],wide_of (Calm.refl _) HC.out HB2.out HB3.out HB4.out HQ.out.1 HQ.out.2.1 HQ.out.2.2 (by rw[HD.out];exact HU.out) (by rw[HD.out];exact HZ1.out)⟩
  ·have hkb3:(pk == 3)=false:=by simpa using hk3
   by_cases hx3:κ=3
   ·subst hx3
    have HK:Hid (kk=3):=by
     show kk=3
     rw[←HKk.out]
     unfold kindP
     rw[HPk.out,if_neg hk3,if_pos HX1.out.1]
    have HD:Hid (wd=x.rule):=by
     show wd=_
     rw[←HWd.out]
     unfold wideP
     rw[HPk.out,if_neg hk3,if_pos HX1.out.1]
    have HQ:=Lib.hid (And.intro q2 (And.intro q3 q0))
    clear q2 q3 q0
    go_wp2_with fail
    refine (imported_c a 3 np nf rp rf _).mono ?_
    rintro e w2 ⟨rfl,hc2⟩
    have z0:=Calm.at_ hc2 z0 hlt
    have z1:=Calm.at_ hc2 z1 hlt
    have z2:=Calm.at_ hc2 z2 hlt
    have z3:=Calm.at_ hc2 z3 hlt
    have z4:=Calm.at_ hc2 z4 hlt
    have f0:=(HB4.out.calm hc2).fz 0
    have f1:=(HB4.out.calm hc2).fz 1
    have f2:=(HB4.out.calm hc2).fz 2
    have f3:=(HB4.out.calm hc2).fz 3
    have f4:=(HB4.out.calm hc2).fz 4
    have HC2:=Lib.hid hc2
    have HU:=Lib.hid (fun u0 u1 u2 u3 u4=>HX.out.calm (calm5 (HC.out.trans hc2) HQ.out.2.2 u0 u1 u2 u3 u4))
    clear hc2
    go_wp2_with fail
    go_meet
    case rel=>exact⟨a,np,nf,rp,rf,false,by rw[HK.out],wide_of HC2.out HC.out HB2.out HB3.out HB4.out HQ.out.1 HQ.out.2.1 HQ.out.2.2 (by rw[HD.out];exact HU.out) (by rw[HD.out];exact⟨HX1.out.2.1,HX1.out.2.2.1,HX1.out.2.2.2.1,HX1.out.2.2.2.2,rfl⟩)⟩
   ·have hxb3:(κ == 3)=false:=by simpa using hx3
    have HK:Hid ((if κ=1∧pk=1 then 1 else 2)=kk):=by
     show _=kk
     rw[←HKk.out]
     unfold kindP ownK
     rw[HPk.out,HX1.out.1,if_neg hk3,if_neg hx3]
    have HD:Hid (wd=⟨false,y.g.b,storedP y.g.b nm⟩):=by
     show wd=_
     rw[←HWd.out]
     unfold wideP
     rw[HPk.out,HX1.out.1,if_neg hk3,if_neg hx3]
    have K0:Hid (Calls Tryz.prog 211 #[.int .i64 κ,.int .i64 pk] w1 fun e w'=>e=.returned (.int .i64 kk)∧w1=w'):=by
     have:=ownKind_c κ pk w1
     rw[HK.out] at this
     exact this
    have HQ:=Lib.hid (And.intro q2 (And.intro q3 q0))
    have g0:=HB2.out.at_ 0 _ rfl
    have g1:=HB2.out.at_ 1 _ rfl
    have hg:=HB2.out.lt
    clear q2 q3 q0
    go_wp2_with fail
    refine K0.out.mono ?_
    rintro e w' ⟨rfl,rfl⟩
    go_wp2_with fail
    have HS:Hid (∀W,Calm w1 W→W.cell? ⟨P2,0,none⟩=some (.slice y.A n y.c)∧W.cell? ⟨P2,1,none⟩=some (.bool re)):=fun W hW=>⟨Calm.at_ hW g0 hg,Calm.at_ hW g1 hg⟩
    have HS5:Hid (∀W u0 u1 u2 u3 u4,Calm w1 W→(set5 W P4 u0 u1 u2 u3 u4).cell? ⟨P2,0,none⟩=some (.slice y.A n y.c)∧(set5 W P4 u0 u1 u2 u3 u4).cell? ⟨P2,1,none⟩=some (.bool re)):=fun W u0 u1 u2 u3 u4 hW=>by
     have h:CellsB (set5 W P4 u0 u1 u2 u3 u4) P2 _:=(HB2.out.calm hW).other HQ.out.1 [u0,u1,u2,u3,u4]
     exact⟨h.at_ 0 _ rfl,h.at_ 1 _ rfl⟩
    have HZ4:Hid (∀W,Calm w1 W→W.cell? ⟨P4,0,none⟩=some (.bool false)∧W.cell? ⟨P4,1,none⟩=some (.slice none 0 0)∧W.cell? ⟨P4,2,none⟩=some (.bool false)∧W.cell? ⟨P4,3,none⟩=some (.slice none 0 0)∧W.cell? ⟨P4,4,none⟩=some (.bool false)∧W.frozen? ⟨P4,0,none⟩=false∧W.frozen? ⟨P4,1,none⟩=false∧W.frozen? ⟨P4,2,none⟩=false∧W.frozen? ⟨P4,3,none⟩=false∧W.frozen? ⟨P4,4,none⟩=false):=fun W hW=>by
     have h:=HB4.out.calm hW
     exact⟨h.at_ 0 _ rfl,h.at_ 1 _ rfl,h.at_ 2 _ rfl,h.at_ 3 _ rfl,h.at_ 4 _ rfl,h.fz 0,h.fz 1,h.fz 2,h.fz 3,h.fz 4⟩
    clear z0 z1 z2 z3 z4 f0 f1 f2 f3 f4 l0 l1 l2 l3 l4 p3 p4 p5 p6 p7 p8
    go_region_held3 (fun W=>W.cell? ⟨P2,0,none⟩=some (.slice y.A n y.c)∧W.cell? ⟨P2,1,none⟩=some (.bool re))
     (first
      |exact HS.out _ (Calm.refl _)
      |exact HS.out _ (Below.drew (Calm.refl _))
      |exact HS.out _ hcx
      |exact HS.out _ (Below.drew hcx)
      |exact HS5.out _ _ _ _ _ _ hcx
      |exact HS5.out _ _ _ _ _ _ (Below.drew hcx)
      |go_keep)
     (first
      |(go_at_call 212;first
        |(refine (KS.out _ (Calm.refl _)).mono ?_;rintro e w2 ⟨⟨A2,c2,rfl,hN2⟩,hc2⟩;have hcx:Calm w1 w2:=hc2;have hZ4:=HZ4.out w2 hcx)
        |(refine (KS.out _ (Below.drew (Calm.refl _))).mono ?_;rintro e w2 ⟨⟨A2,c2,rfl,hN2⟩,hc2⟩;have hcx:Calm w1 w2:=(Below.drew (Calm.refl _)).trans hc2;have hZ4:=HZ4.out w2 hcx)))
    all_goals
     have HU:Hid (∀u0 u1 u2 u3 u4,RuleU (set5 w2 P4 u0 u1 u2 u3 u4) ⟨y.A,y.c,A2,c2⟩ wd):=fun u0 u1 u2 u3 u4=>by
      have hy:=HY.out.calm (calm5 (HC.out.trans hcx) HQ.out.2.2 u0 u1 u2 u3 u4)
      have hN4:=(hN2.set5 hlt u0 u1 u2 u3 u4)
      rw[HD.out]
      exact⟨hy.r.toU,hN4.u,hy.room,hN4.room,hy.cap,hN4.cap⟩
     have HNN:Hid (wd.left.parts.length=n∧wd.right.parts.length=n∧wd.left.rest=re∧wd.right.rest=re∧wd.excl=false):=by
      show _∧_
      rw[HD.out]
      exact⟨HN.out.1,by show (y.g.b.parts.set 0 nm).length=n;rw[List.length_set];exact HN.out.1,HN.out.2.2,HN.out.2.2,rfl⟩
     have HWA:Hid (WideAt w (set5 w2 P4 (.bool false) (.slice y.A n y.c) (.bool re) (.slice A2 n c2) (.bool re)) P2 P3 P4 y n m re wd ⟨y.A,y.c,A2,c2⟩ n n re re false):=wide_of (W:=w2) (a3:=⟨y.A,y.c,A2,c2⟩) (l:=n) (r:=n) (lr:=re) (rr:=re) (ex:=false) hcx HC.out HB2.out HB3.out HB4.out HQ.out.1 HQ.out.2.1 HQ.out.2.2 HU.out HNN.out
     go_wp2_with fail
     go_meet
     case rel=>exact⟨⟨y.A,y.c,A2,c2⟩,n,n,re,re,false,rfl,HWA⟩
 case rest=>
  obtain⟨a3,la3,ra3,lr3,rr3,ex3,rfl,HWd3⟩:=hcut
  have hwide:=HWd3.out.wide
  have v0:=hwide.at_ 0 _ rfl
  have v1:=hwide.at_ 1 _ rfl
  have v2:=hwide.at_ 2 _ rfl
  have v3:=hwide.at_ 3 _ rfl
  have v4:=hwide.at_ 4 _ rfl
  have g0:=HWd3.out.g.at_ 0 _ rfl
  have g1:=HWd3.out.g.at_ 1 _ rfl
  clear hwide z0 z1 z2 z3 z4 f0 f1 f2 f3 f4 l0 l1 l2 l3 l4 p3 p4 p5 p6 p7 p8
  go_wp2_with fail
  refine (KN.out wc a3 _ _ _ _ _ HWd3.out.calm HWd3.out.u HWd3.out.nn).mono ?_
  rintro e w5 ⟨hE,hc5⟩
  obtain⟨a2,r2,okb,er,rfl,hN2,hr2,her⟩:=narEnd_any hE
  obtain⟨q0,h0⟩:∃q0,r2.excl=q0:=⟨_,rfl⟩
  obtain⟨q1,h1⟩:∃q1,r2.left.parts.length=q1:=⟨_,rfl⟩
  obtain⟨q2,h2⟩:∃q2,r2.left.rest=q2:=⟨_,rfl⟩
  obtain⟨q3,h3⟩:∃q3,r2.right.parts.length=q3:=⟨_,rfl⟩
  obtain⟨q4,h4⟩:∃q4,r2.right.rest=q4:=⟨_,rfl⟩
  unfold ruleV
  rw[h0,h1,h2,h3,h4]
  have HQ:=Lib.hid (And.intro h0 (And.intro h1 (And.intro h2 (And.intro h3 h4))))
  have HN2:=Lib.hid hN2
  have HC5:=Lib.hid hc5
  have hgb:=HWd3.out.g.calm hc5
  have hzb:=HWd3.out.z.calm hc5
  have g0:=hgb.at_ 0 _ rfl
  have g1:=hgb.at_ 1 _ rfl
  have g2:=hgb.at_ 2 _ rfl
  have hgl:=hgb.lt
  have hzl:=hzb.lt
  have z0:=hzb.at_ 0 _ rfl
  have z1:=hzb.at_ 1 _ rfl
  have z2:=hzb.at_ 2 _ rfl
  have z3:=hzb.at_ 3 _ rfl
  have z4:=hzb.at_ 4 _ rfl
  have z5:=hzb.at_ 5 _ rfl
  have z6:=hzb.at_ 6 _ rfl
  have z7:=hzb.at_ 7 _ rfl
  have z8:=hzb.at_ 8 _ rfl
  have f0:=hzb.fz 0
  have f1:=hzb.fz 1
  have f2:=hzb.fz 2
  have f3:=hzb.fz 3
  have f4:=hzb.fz 4
  have f5:=hzb.fz 5
  have f6:=hzb.fz 6
  have f7:=hzb.fz 7
  have f8:=hzb.fz 8
  have HP3:Hid (w.heap.size≤P3∧P3 < wc.heap.size):=⟨by have:=HE.out;omega,HWd3.out.z.lt⟩
  have HR9:Hid ((∀u0 u1 u2 u3 u4 u5 u6 u7 u8 X,RuleN ((set9 w5 P3 u0 u1 u2 u3 u4 u5 u6 u7 u8).alloc X) w.heap.size a2 r2)∧(∀u0 u1 u2 u3 u4 u5 u6 u7 u8 X,Calm w ((set9 w5 P3 u0 u1 u2 u3 u4 u5 u6 u7 u8).alloc X))):=
   ⟨fun u0 u1 u2 u3 u4 u5 u6 u7 u8 X=>((HN2.out.set9 HP3.out.2 u0 u1 u2 u3 u4 u5 u6 u7 u8).mono HWd3.out.calm.size).calm ((Calm.refl _).alloc _),fun u0 u1 u2 u3 u4 u5 u6 u7 u8 X=>(calm9 (HWd3.out.calm.trans HC5.out) HP3.out.1 u0 u1 u2 u3 u4 u5 u6 u7 u8).alloc _⟩
  have hne:¬P3=w5.heap.size:=by omega
  have hne2:¬w5.heap.size=P3:=by omega
  clear hE hN2 hc5 hgb hzb h0 h1 h2 h3 h4 v0 v1 v2 v3 v4
  have hcs:=HCs.out
  rw[her] at hcs
  rw[hr2] at hcs
  have HCs2:=Lib.hid hcs
  clear hcs her hr2
  by_cases her0:er=0
  ·subst her0
   have HE2:Hid (narP nm x z.p y.g=some ⟨y.g,kk,r2⟩):=by
    rcases HCs2.out with⟨h,_⟩ | ⟨_,h⟩
    ·exact absurd rfl h
    ·exact h
   go_wp2_with fail
   refine bodyPost_ret (v:=.tuple #[.agg #[.slice y.A n y.c,.bool re,.slice y.HA m y.hc,.int .i64 kk,.bool q0,.slice a2.AL q1 a2.cl,.bool q2,.slice a2.AR q3 a2.cr,.bool q4],.int .i64 0]) ?_ rfl ⟨.inr ⟨⟨y.g,kk,r2⟩,a2,HE2.out,?_,?_⟩,?_⟩
   ·rw[results_cell_slot3 rfl]
    go_simp
   ·unfold encC
    simp only[HN.out.1,HN.out.2.1,HN.out.2.2,HQ.out.1,HQ.out.2.1,HQ.out.2.2.1,HQ.out.2.2.2.1,HQ.out.2.2.2.2]
   ·exact HR9.out.1 _ _ _ _ _ _ _ _ _ _
   ·exact HR9.out.2 _ _ _ _ _ _ _ _ _ _
  ·have her1:(er != 0)=true:=by simpa using her0
   have HE2:Hid (narP nm x z.p y.g=none):=by
    rcases HCs2.out with⟨_,h⟩ | ⟨h,_⟩
    ·exact h
    ·exact absurd h her0
   go_wp2_with fail
   refine bodyPost_ret (v:=.tuple #[.agg #[.slice none 0 0,.bool false,.slice none 0 0,.int .i64 0,.bool false,.slice none 0 0,.bool false,.slice none 0 0,.bool false],.int .i64 80]) ?_ rfl ⟨.inl ⟨HE2.out,rfl⟩,?_⟩
   ·rw[results_cell_slot3 rfl]
    go_simp
   ·exact HR9.out.2 _ _ _ _ _ _ _ _ _ _
structure BoxK (T:TypeId) (w:World) (B:Nat) (vs:List Value):Prop where
 c:CellsB w B vs
 kind:∃cs,w.heap[B]?=some (.cells cs T (0,0))
theorem BoxK.calm {T:TypeId} {w w':World} {B:Nat} {vs:List Value} (h:BoxK T w B vs) (hc:Calm w w'):BoxK T w' B vs:=⟨h.c.calm hc,by obtain⟨cs,hh⟩:=h.kind;exact⟨cs,(hc.block _ h.c.lt).trans hh⟩⟩
theorem BoxK.new (w:World) (vs:Array Value) (T:TypeId):BoxK T (w.alloc (.cells vs T)) w.heap.size vs.toList:=⟨CellsB.new w vs T,⟨_,heap_alloc_new w _⟩⟩
theorem BoxK.own {T T':TypeId} {w w':World} {B B0 n K:Nat} {v:Value} {vs xs:List Value} (h:BoxK T w B vs) (hT:T≠T') (hown:w.ownsRow B0 T' K v n xs) (hg:w.grownBy w' v.ownBlock):BoxK T w' B vs:=by
 have hne:some B≠v.ownBlock:=fun e=>by
  obtain⟨cs,hh⟩:=h.kind
  rcases hown.2 with⟨rfl,_⟩ | ⟨g',cap,cur,rfl,_,hgh,_⟩
  ·simp[Value.ownBlock] at e
  ·have e2:B=g':=by simpa[Value.ownBlock] using e
   rw[e2,hgh] at hh
   injection hh with hh
   injection hh with _ ht
   exact absurd ht.symm hT
 exact⟨h.c.grown hg hne,by obtain⟨cs,hh⟩:=h.kind;exact⟨cs,(hg.block B h.c.lt hne).trans hh⟩⟩
theorem LinesU.drop {w:World} {b o:Nat} {A:Option Addr} {rs:List Line} (h:LinesU w (some ⟨b,o,none⟩) rs) {k:Nat} (hA:k < rs.length→A=some ⟨b,o+k * 5,none⟩):LinesU w A (rs.drop k):=by
 refine⟨by rw[List.length_drop];have:=h.len;omega,fun h0=>?_⟩
 rw[List.length_drop] at h0
 obtain⟨b',o',e,hb,hk⟩:=h.at_ (by omega)
 obtain⟨rfl,rfl⟩:b=b'∧o=o':=by simpa using e
 refine⟨b,o+k * 5,hA (by omega),hb,fun j r hr=>?_⟩
 rw[List.getElem?_drop] at hr
 obtain⟨a,h1,h2⟩:=hk _ _ hr
 have e2:o+(k+j) * 5=o+k * 5+j * 5:=by omega
 rw[e2] at h1
 exact⟨a,h1,h2⟩
structure LatI (w3 wr:World) (v:Value) (ls:List Line) (j:Nat) (ys:List NewP):Prop where
 own:OwnX encP 2 65 w3 wr v ys
 is:ys.map (·.p)=(ls.take j).map (·.path)
 each:∀y∈ys,PatA w3 y.A y.c y.p
theorem LatI.nil (w:World) (ls:List Line):LatI w w (.slice none 0 0) ls 0 []:=⟨OwnX.nil (Calm.refl _),rfl,fun y hy=>by cases hy⟩
theorem LatI.len {w3 wr:World} {v:Value} {ls:List Line} {j:Nat} {ys:List NewP} (h:LatI w3 wr v ls j ys):ys.length≤ls.length:=by
 have:=congrArg List.length h.is
 rw[List.length_map,List.length_map,List.length_take] at this
 omega
theorem LatI.add {w3 wr w5:World} {v v2:Value} {ls:List Line} {j:Nat} {ys:List NewP} {q:Line} {y:NewP} (h:LatI w3 wr v ls j ys) (hq:ls[j]?=some q) (hy:y.p=q.path) (ha:PatA w3 y.A y.c y.p) (hown:OwnX encP 2 65 w3 w5 v2 (ys++[y])):LatI w3 w5 v2 ls (j+1) (ys++[y]):=by
 obtain⟨hlt,he⟩:=List.getElem?_eq_some_iff.1 hq
 refine⟨hown,?_,fun z hz=>?_⟩
 ·rw[List.take_succ_eq_append_getElem hlt,List.map_append,List.map_append,h.is,he]
  simp[hy]
 ·rcases List.mem_append.1 hz with hz | hz
  ·exact h.each z hz
  ·rw[List.mem_singleton] at hz
   subst hz
   exact ha
theorem LatI.reads {w3 wr:World} {v:Value} {ls:List Line} {ys:List NewP} {L:Nat} (h:LatI w3 wr v ls L ys) (hL:ls.length=L) (hl:L≤16384):∃A c,v=.slice A L c∧PatsR wr A (ls.map (·.path)):=by
 obtain⟨A,c,hv⟩:=h.own.len_shape
 have hle:=h.len
 have his:=h.is
 rw[List.take_of_length_le (by omega)] at his
 have hys:ys.length=L:=by
  have:=congrArg List.length his
  rw[List.length_map,List.length_map] at this
  omega
 subst hv
 refine⟨A,c,by rw[hys],?_⟩
 rw[←his]
 exact own_readsR h.own (fun y hy=>(h.each y hy).calm h.own.calm) (by omega)
structure PcJ (w9 wr:World) (v:Value) (zs:List NewC) (B14 B18:Nat) (lv gv:List Value) (A3:Option Addr) (c3:Nat) (HA3:Option Addr) (hc3:Nat) (g:Reg):Prop where
 pc:PcI 216 32 w9 wr v zs
 line:BoxK 68 wr B14 lv
 own:BoxK 214 wr B18 gv
 reg:RegN wr w9.heap.size A3 c3 HA3 hc3 g
theorem PcJ.calm {w9 wr w2:World} {v:Value} {zs:List NewC} {B14 B18:Nat} {lv gv:List Value} {A3:Option Addr} {c3:Nat} {HA3:Option Addr} {hc3:Nat} {g:Reg} (h:PcJ w9 wr v zs B14 B18 lv gv A3 c3 HA3 hc3 g) (hc:Calm wr w2):PcJ w9 w2 v zs B14 B18 lv gv A3 c3 HA3 hc3 g:=
 ⟨h.pc.calm hc,h.line.calm hc,h.own.calm hc,h.reg.calm hc⟩
theorem PcJ.add {w9 wr w2 w3:World} {v v2:Value} {zs:List NewC} {z:NewC} {B14 B18:Nat} {lv gv:List Value} {A3:Option Addr} {c3:Nat} {HA3:Option Addr} {hc3:Nat} {g:Reg} (h:PcJ w9 wr v zs B14 B18 lv gv A3 c3 HA3 hc3 g) (hc:Calm wr w2) (hz:PcN w2 w9.heap.size z) (hl:z.p.region.hs.length≤64) (h32:zs.length+1≤32) (hg:w2.grownBy w3 v.ownBlock) (hown:OwnX encC 9 216 w9 w3 v2 (zs++[z])):PcJ w9 w3 v2 (zs++[z]) B14 B18 lv gv A3 c3 HA3 hc3 g:=
 have ho:=(h.pc.own.to hc).own
 ⟨h.pc.add (by decide) (by decide) hc hz hl h32 hg hown,(h.line.calm hc).own (by decide) ho hg,(h.own.calm hc).own (by decide) ho hg,(h.reg.calm hc).own (by decide) (by decide) ho hg⟩
theorem wide_small {nm:Str} {x:Line} {p:Pc} {g:Reg} (hnl:nm.length≤40) (hx:SmallR x.rule) (hp:PcUp p) (hz:PcZU p) (hg:gErr g=0) (hgl:LetP 40 g.b):SmallR (wideP nm x p g):=by
 unfold wideP
 by_cases h3:p.kind=3
 ·rw[if_pos h3]
  obtain⟨r1,r2⟩:=hp.r h3
  have tw:=ruleErr_twin.1 r1
  have hl:LetP 40 p.line.left:=by rw[r2];exact hz.b
  exact⟨by have:=pat_few tw.lp;omega,fun y hy=>by have:=hl y hy;omega,by have:=pat_few tw.rp;omega,fun y hy=>by have:=(hz.r h3).right hl y hy;omega⟩
 ·rw[if_neg h3]
  by_cases hx3:x.kind=3
  ·rw[if_pos hx3]
   exact hx
  ·rw[if_neg hx3]
   have hf:=pat_few (gErr_zero hg).1
   refine⟨by show g.b.parts.length≤_;omega,fun y hy=>by have:=hgl y hy;omega,?_,fun y hy=>by have:=stored_let hgl hnl y hy;omega⟩
   show (g.b.parts.set 0 nm).length≤_
   rw[List.length_set]
   omega
theorem pat_pos {p:Pat} (h:patErr p=0):0 < p.parts.length:=by
 exact (patErr_iff.1 h).1
def wholeP (nm:Str) (up:Option (List Pc)) (ls:List Line):Option (List Pc):=match up with
 |none=>none
 |some u=>linesPs nm u ls []
theorem meetR_let {x y g:Reg} (h:(meetR x y).1=some g) (hx:LetP 40 x.b) (hy:LetP 40 y.b):LetP 40 g.b:=by
 obtain⟨_,_,_,_,_,m,hm,rfl⟩:=meetR_some h
 exact meet_each hm hx hy (by decide)
theorem root_reads (w:World):PcsR (((w.alloc (.cells #[.string ⟨#[118,105,101,119]⟩] 9)).alloc (.cells #[.slice (some ⟨w.heap.size,0,none⟩) 1 1,.bool true] 65)).alloc (.cells #[.slice (some ⟨w.heap.size,0,none⟩) 1 1,.bool true,.slice none 0 0,.int .i64 1,.bool false,.slice none 0 0,.bool false,.slice none 0 0,.bool false] 216)) (some ⟨w.heap.size+1+1,0,none⟩) rootPs:=by
 refine⟨[⟨some ⟨w.heap.size,0,none⟩,1,none,0,⟨none,0,none,0⟩,⟨allG,1,zeroR⟩⟩],rfl,?_,fun z hz=>?_⟩
 ·have:=read_newC (T:=216) (w:=(w.alloc (.cells #[.string ⟨#[118,105,101,119]⟩] 9)).alloc (.cells #[.slice (some ⟨w.heap.size,0,none⟩) 1 1,.bool true] 65)) (n:=w.heap.size+1+1) ⟨some ⟨w.heap.size,0,none⟩,1,none,0,⟨none,0,none,0⟩,⟨allG,1,zeroR⟩⟩ (by simp) rfl rfl rfl rfl rfl rfl rfl rfl rfl
  exact this
 ·rw[List.mem_singleton] at hz
  subst hz
  have n1:(1:Nat)≤16384:=by decide
  have n2:(1:Nat)≤9223372036854775807:=by decide
  have n3:(0:Nat)≤9223372036854775807:=by decide
  have n4:∀l∈[viewN],l.length≤16384:=by decide
  refine⟨⟨⟨n1,n4,fun _=>?_⟩,Nat.le_refl _,n2,⟨Nat.zero_le _,fun h=>absurd h (Nat.lt_irrefl 0)⟩⟩,Nat.le_refl _,n3,⟨(NewS.nil _ 0).u,(NewS.nil _ 0).u,Nat.le_refl _,Nat.le_refl _,n3,n3⟩⟩
  refine⟨w.heap.size,0,rfl,by simp;omega,fun k l hl=>?_⟩
  have hk:k=0:=by
   have:=(List.getElem?_eq_some_iff.1 hl).1
   simp[allG] at this
   exact this
  subst hk
  obtain rfl:viewN=l:=by simpa[allG] using hl
  simp[go_sem]
  rfl
end Go.Proofs.YtcofdlipapnohaaGreatDoor
