/- The pieces of a stream's view: what they are and what they mean. No program in sight. -/
import Derived.Test.YtcofdlipapnohaaGreatDoorZRSameG
import Derived.Test.YtcofdlipapnohaaGreatDoorZStrLaw
set_option linter.unusedVariables false
set_option linter.unusedSimpArgs false
namespace Go.Proofs.YtcofdlipapnohaaGreatDoor.Sy
def rightHs (r:Rule):List Pat→Option (List Pat)
 |[]=>some []
 |h :: hs=>if (narL r h).2≠0 then none else (rightHs r hs).map fun l=>((narL r h).1.map (·.right)).toList++l
theorem rightHs_good {r:Rule}:∀{hs ks:List Pat},rightHs r hs=some ks→(∀k∈ks,patErr k=0)∧ks.length≤hs.length
 |[],ks,h=>by
  obtain rfl:=Option.some.inj h
  exact⟨fun k hk=>(by cases hk),Nat.le_refl _⟩
 |x :: hs,ks,h=>by
  unfold rightHs at h
  split at h
  ·cases h
  ·obtain⟨l,hl,rfl⟩:=Option.map_eq_some_iff.1 h
   obtain⟨h1,h2⟩:=rightHs_good hl
   refine⟨fun k hk=>?_,?_⟩
   ·rcases List.mem_append.1 hk with hk | hk
    ·rw[Option.mem_toList] at hk
     obtain⟨n,hn,rfl⟩:=Option.map_eq_some_iff.1 hk
     exact (ruleErr_twin.1 (narL_good hn)).rp
    ·exact h1 k hk
   ·have:((narL r x).1.map (·.right)).toList.length≤1:=by
     rcases (narL r x).1 with _ | n <;> simp
    rw[List.length_append,List.length_cons]
    omega
theorem rightHs_app {r:Rule}:∀(hs ks:List Pat),rightHs r (hs++ks)=match rightHs r hs with
  |none=>none
  |some l=>(rightHs r ks).map (l++·)
 |[],ks=>by
  simp only[List.nil_append,rightHs]
  simp
 |x :: hs,ks=>by
  have ih:=rightHs_app (r:=r) hs ks
  simp only[List.cons_append,rightHs]
  by_cases h:(narL r x).2≠0
  ·rw[if_pos h,if_pos h]
  ·rw[if_neg h,if_neg h,ih]
   rcases rightHs r hs with _ | l
   ·rfl
   ·simp only[Option.map_some]
    rcases rightHs r ks with _ | k
    ·rfl
    ·simp
theorem rightHs_none {r:Rule} {hs:List Pat} (h:rightHs r hs=none) (ks:List Pat):rightHs r (hs++ks)=none:=by
 rw[rightHs_app,h]
theorem star_cons {x:Str} (h:isStar x=true):[42]++x.tail=x:=(star_text h).symm
theorem fillR_stars:∀(xs:List Str),fillR xs (List.replicate (xs.filter isStar).length [42])=xs
 |[]=>rfl
 |x :: xs=>by
  have ih:=fillR_stars xs
  rcases hs:isStar x with _ | _
  ·rw[List.filter_cons,hs]
   simp only[Bool.false_eq_true,if_false,fillR,hs]
   rw[ih]
  ·rw[List.filter_cons,hs]
   simp only[if_true,List.length_cons,List.replicate_succ,fillR,hs,List.headD_cons,List.tail_cons]
   rw[ih,star_cons hs]
theorem cap1_app {x:Str} (c:Str):cap1 x (c++x.tail)=c:=by
 unfold cap1
 rw[List.length_append,Nat.add_sub_cancel,List.take_left']
 rfl
theorem cap1_self {x:Str} (h:isStar x=true):cap1 x x=[42]:=by
 have:=cap1_app (x:=x) [42]
 rwa [star_cons h] at this
theorem capsR_self:∀(ms:List Str),capsR ms ms=List.replicate (ms.filter isStar).length [42]
 |[]=>rfl
 |x :: xs=>by
  have ih:=capsR_self xs
  rcases hs:isStar x with _ | _
  ·rw[List.filter_cons,hs]
   simp only[Bool.false_eq_true,if_false,capsR,hs]
   exact ih
  ·rw[List.filter_cons,hs]
   simp only[if_true,capsR,hs,List.length_cons,List.replicate_succ,cap1_self hs]
   rw[ih]
theorem carry_carry {p q m m':Pat} (h:Inner p q m) (hl:(carryP p q m).parts.length≤12) (h':Inner m (carryP p q m) m') (hn:m'.parts.length=m.parts.length):carryP m (carryP p q m) m'=carryP p q m':=by
 have hm:=h'.mr
 have hle:=h.le
 have hst:((m.parts.take p.parts.length).filter isStar).length=(capsR (m.parts.take p.parts.length) m'.parts).length:=(capsR_len _ _ (mR_take _ _ _ hm)).symm
 have hfl:(capsR (m.parts.take p.parts.length) m'.parts).length=((fillR q.parts (capsR p.parts m.parts)).filter isStar).length:=by
  rw[fill_stars _ _ h.cl h.cn,caps_stars _ _ h.inr h.mr,hst]
 have e:trL m (carryP p q m) m'.parts=trL p q m'.parts:=by
  rw[trL_eq (by omega),trL_eq (by omega),h.parts,h.crest,capsR_split p.parts.length m.parts m'.parts hm,fillR_app _ _ _ _ hfl,fill_fill _ _ _ h.cl h.cn,←caps_caps _ _ _ h.inr h.mr hm,List.append_assoc]
  congr 1
  rw[List.drop_of_length_le (show m'.parts.length≤m.parts.length by omega)]
  rcases hq:q.rest with _ | _
  ·simp[fillR]
  ·simp only[if_true]
   rw[fill_caps _ _ (mR_drop p.parts.length _ _ hm),List.length_drop,List.take_of_length_le (by rw[List.length_drop];omega)]
   cases m.rest <;> simp
 have hr:((carryP p q m).rest && m'.rest)=(q.rest && m'.rest):=by
  rw[h.crest]
  rcases hm':m'.rest with _ | _
  ·rw[Bool.and_false,Bool.and_false]
  ·have h1:=h'.rest hm'
   rw[h.crest] at h1
   rw[h1,h.rest h1]
 show (⟨trL m (carryP p q m) m'.parts,(carryP p q m).rest && m'.rest⟩:Pat)=⟨trL p q m'.parts,q.rest && m'.rest⟩
 rw[e,hr]
structure Pc where
 region:Reg
 kind:Int
 line:Rule
deriving Inhabited
def zeroR:Rule:=⟨false,⟨[],false⟩,⟨[],false⟩⟩
def storedP (p:Pat) (n:Str):Pat:=⟨p.parts.set 0 n,p.rest⟩
def allG:Reg:=⟨⟨[viewN],true⟩,[]⟩
def rootPs:List Pc:=[⟨allG,1,zeroR⟩]
def ownK (k up:Int):Int:=if k=1∧up=1 then 1 else 2
def kindP (x:Line) (p:Pc):Int:=if p.kind=3 then 3 else if x.kind=3 then 3 else ownK x.kind p.kind
def wideP (name:Str) (x:Line) (p:Pc) (g:Reg):Rule:=if p.kind=3 then p.line else if x.kind=3 then x.rule else ⟨false,g.b,storedP g.b name⟩
def narP (name:Str) (x:Line) (p:Pc) (g:Reg):Option Pc:=if (narL (wideP name x p g) g.b).2≠0 then none else some ⟨g,kindP x p,((narL (wideP name x p g) g.b).1).getD zeroR⟩
def stepPs (name:Str) (own:Reg) (x:Line):List Pc→List Pc→Option (List Pc)
 |[],acc=>some acc
 |p :: ps,acc=>if (meetR own p.region).2≠0 then none else match (meetR own p.region).1 with
  |none=>stepPs name own x ps acc
  |some g=>match narP name x p g with
   |none=>none
   |some q=>if acc.length=32 then none else stepPs name own x ps (acc++[q])
def ownG (x:Line) (r:List Line):Reg:=⟨x.path,redL x.path (r.map (·.path))⟩
def linesPs (name:Str) (up:List Pc):List Line→List Pc→Option (List Pc)
 |[],acc=>some acc
 |x :: r,acc=>if x.kind=4 then linesPs name up r acc else match stepPs name (ownG x r) x up acc with
  |none=>none
  |some acc'=>linesPs name up r acc'
def pcsL (ss:List Strm):List Nat→Option (List Pc)
 |[]=>some rootPs
 |i :: r=>match pcsL ss r with
  |none=>none
  |some up=>linesPs (strm ss i).name up (strm ss i).paths []
def pcs (ss:List Strm) (i:Nat):Option (List Pc):=pcsL ss (i :: above ss i)
/-! ### lines -/
theorem narL_at {r:Rule} {m:Pat} (h:Inner r.left r.right m):narL r m=if 12 < (carryP r.left r.right m).parts.length then (none,43) else (some ⟨false,m,carryP r.left r.right m⟩,0):=by
 unfold narL
 rw[if_neg (by simpa using ruleErr_twin.2 h.tw),if_neg (by simpa using h.good),meetP_inside h.tw.lp h.good h.inn]
theorem head_cons {p:Pat} (hp:p.parts.getD 0 []=viewN):∃t,p.parts=viewN :: t:=by
 rcases h:p.parts with _ | ⟨a,t⟩
 ·rw[h] at hp
  cases hp
 ·rw[h] at hp
  exact⟨t,by rw[show a=viewN from hp]⟩
theorem head_in {m p:Pat} (hp:p.parts.getD 0 []=viewN) (h:insideP m p=true):m.parts.getD 0 []=viewN:=by
 obtain⟨t,ht⟩:=head_cons hp
 obtain⟨h1,h2⟩:=insideP_inR h
 rw[ht] at h1 h2
 rcases hm:m.parts with _ | ⟨y,r⟩
 ·rw[hm] at h1
  simp at h1
 ·rw[hm] at h2
  unfold inR at h2
  rw[Bool.and_eq_true] at h2
  rcases inside_iff.1 h2.1 with h3 | ⟨h3,_⟩
  ·rw[h3]
   rfl
  ·cases h3
theorem stored_twin {p:Pat} (hp:patErr p=0) (hv:p.parts.getD 0 []=viewN) {n:Str} (hn:comp n=true):Twin p (storedP p n):=by
 obtain⟨t,ht⟩:=head_cons hv
 obtain⟨h0,h1,h2,h3,h4⟩:=patErr_iff.1 hp
 have e:storedP p n=⟨n :: t,p.rest⟩:=by
  unfold storedP
  rw[ht]
  rfl
 have hl:(n :: t).length=p.parts.length:=by rw[ht];rfl
 refine⟨hp,?_,?_,by rw[e]⟩
 ·rw[e]
  refine patErr_iff.2 ⟨by simp,fun hr=>by rw[hl];exact h1 hr,by rw[hl];exact h2,hn,fun x hx=>?_⟩
  rcases List.mem_cons.1 hx with rfl | hx
  ·unfold partOk
   rw[hn]
   rfl
  ·exact h4 x (by rw[ht];exact List.mem_cons_of_mem _ hx)
 ·rw[e]
  show (p.parts.filter isStar).length=((n :: t).filter isStar).length
  rw[ht,List.filter_cons,List.filter_cons,comp_noStar hn,show isStar viewN=false from rfl]
  rfl
theorem carry_self {p q:Pat} (h:Twin p q):carryP p q p=q:=by
 have hl:p.parts.length≤p.parts.length:=Nat.le_refl _
 have h1:trL p q p.parts=q.parts:=by
  rw[trL_eq hl,capsR_self,show (p.parts.filter isStar).length=(q.parts.filter isStar).length from h.sn,fillR_stars,List.drop_of_length_le hl]
  cases q.rest <;> simp
 have h2:(q.rest && p.rest)=q.rest:=by
  rw[h.rs]
  cases q.rest <;> rfl
 unfold carryP
 rw[h1,h2]
theorem inner_self {p q:Pat} (h:Twin p q):Inner p q p:=⟨h,h.lp,insideP_refl (allOk_of h.lp)⟩
theorem stored_tr {p:Pat} (hp:patErr p=0) (hv:p.parts.getD 0 []=viewN) {n:Str} (hn:comp n=true) {l:List Str} (hm:matchL p l=true):trL p (storedP p n) l=n :: l.tail:=by
 obtain⟨t,ht⟩:=head_cons hv
 have e:storedP p n=⟨n :: t,p.rest⟩:=by
  unfold storedP
  rw[ht]
  rfl
 rw[matchL_mR,Bool.and_eq_true] at hm
 have hle:=reaches_le hm.1
 have hr:=hm.1
 have hmr:=hm.2
 rw[ht] at hle hmr
 rcases l with _ | ⟨a,l⟩
 ·simp at hle
 ·rw[trL_eq (by rw[ht];exact hle),e,ht]
  unfold mR at hmr
  rw[Bool.and_eq_true] at hmr
  have hs:isStar viewN=false:=rfl
  simp only[capsR,hs,Bool.false_eq_true,if_false,fillR,comp_noStar hn,List.length_cons,List.drop_succ_cons,List.tail_cons,List.cons_append]
  rw[fill_caps _ _ hmr.2]
  congr 1
  cases hrest:p.rest with
  |true=>simp only[if_true];exact List.take_append_drop _ _
  |false=>
   simp only[Bool.false_eq_true,if_false,List.append_nil]
   refine List.take_of_length_le ?_
   unfold reaches at hr
   rw[ht,hrest] at hr
   simp at hr
   omega
structure PcOk (p:Pc):Prop where
 g:gErr p.region=0
 v:p.region.b.parts.getD 0 []=viewN
 live:gLen p.region≠0
 r:ruleErr p.line=0
 lb:p.line.left=p.region.b
 ex:p.line.excl=false
 k:p.kind=1∨p.kind=2∨p.kind=3
structure PcUp (p:Pc):Prop where
 g:gErr p.region=0
 r:p.kind=3→ruleErr p.line=0∧p.line.left=p.region.b
 k:p.kind=1∨p.kind=2∨p.kind=3
theorem PcOk.up {p:Pc} (h:PcOk p):PcUp p:=⟨h.g,fun _=>⟨h.r,h.lb⟩,h.k⟩
theorem root_up:∀p∈rootPs,PcUp p:=fun p hp=>by
 obtain rfl:=List.mem_singleton.1 hp
 exact⟨by decide,fun h=>absurd h (by decide),.inl rfl⟩
def srcP (name:Str) (x:Line) (p:Pc) (c:Str) (l:List Str):Option Str:=if p.kind=3 then fwd p.line c else if x.kind=3 then fwd x.rule c else some (pathStr (name :: l.tail))
theorem kindP_ok {x:Line} {p:Pc}:kindP x p=1∨kindP x p=2∨kindP x p=3:=by
 unfold kindP ownK
 split
 ·exact .inr (.inr rfl)
 ·split
  ·exact .inr (.inr rfl)
  ·split
   ·exact .inl rfl
   ·exact .inr (.inl rfl)
theorem ownG_has {x:Line} {r:List Line} (hx:lineOk x=true) (hr:∀y∈r,lineOk y=true) {c:Str} {l:List Str} (hp:pathOf c=some l):hasG (ownG x r) l=(matchS x.path c && !(r.any fun y=>matchS y.path c)):=by
 have hc:=(pathOf_some hp).2.1
 show hasL x.path (redL x.path (r.map (·.path))) l=_
 rw[redL_has (lineOk_path hx).1 (fun p hp=>by
  obtain⟨y,hy,rfl⟩:=List.mem_map.1 hp
  exact (lineOk_path (hr y hy)).1) hc]
 unfold hasL
 rw[matchS_path (lineOk_path hx).1 hp,List.any_map]
 congr 2
 have key:∀r:List Line,(∀y∈r,lineOk y=true)→r.any ((fun h=>matchL h l) ∘ fun y=>y.path)=r.any fun y=>matchS y.path c:=by
  intro r
  induction r with
  |nil=>intro _;rfl
  |cons y r ih=>
   intro h
   rw[List.any_cons,List.any_cons,ih (fun z hz=>h z (List.mem_cons_of_mem _ hz)),matchS_path (lineOk_path (h y List.mem_cons_self)).1 hp]
   rfl
 exact key r hr
theorem hasG_left' {g:Reg} {l:List Str} (h:hasG g l=true):matchL g.b l=true:=by
 unfold hasG hasL at h
 rw[Bool.and_eq_true] at h
 exact h.1
theorem narP_ok {name:Str} {x:Line} {r:List Line} {p q:Pc} {g:Reg} (hn:comp name=true) (hx:lineOk x=true) (hp:PcUp p) (hg:(meetR (ownG x r) p.region).1=some g) (hq:narP name x p g=some q) :
  PcOk q∧q.region=g∧q.kind=kindP x p∧(∀c l,pathOf c=some l→hasG g l=true→fwd q.line c=srcP name x p c l)∧(q.kind≠3→q.line.right=storedP q.region.b name):=by
 obtain⟨h1,h2,h3,h4,h5,m,hm,rfl⟩:=meetR_some hg
 obtain⟨hxp,hxv⟩:=lineOk_path hx
 obtain⟨m1,m2,m3,m4⟩:=meetP_some hm
 have hin:=meetL_in (allOk_of m1) (allOk_of m2) m3
 have hv:m.parts.getD 0 []=viewN:=head_in hxv hin.1
 have hb:(meetG m (ownG x r) p.region).b=m:=rfl
 unfold narP at hq
 by_cases h0:(narL (wideP name x p (meetG m (ownG x r) p.region)) m).2≠0
 ·rw[hb,if_pos h0] at hq
  cases hq
 ·rw[hb,if_neg h0] at hq
  obtain rfl:=Option.some.inj hq
  -- the wide line,and that what was met lies inside its left side
  have hw:Inner (wideP name x p (meetG m (ownG x r) p.region)).left (wideP name x p (meetG m (ownG x r) p.region)).right m:=by
   unfold wideP
   by_cases k3:p.kind=3
   ·rw[if_pos k3]
    obtain⟨r1,r2⟩:=hp.r k3
    exact⟨ruleErr_twin.1 r1,m4,by rw[r2];exact hin.2⟩
   ·rw[if_neg k3]
    by_cases x3:x.kind=3
    ·rw[if_pos x3]
     exact⟨ruleErr_twin.1 (lineOk_import hx x3).1,m4,hin.1⟩
    ·rw[if_neg x3]
     exact inner_self (stored_twin m4 hv hn)
  have hnar:=narL_at hw
  have h12:¬12 < (carryP (wideP name x p (meetG m (ownG x r) p.region)).left (wideP name x p (meetG m (ownG x r) p.region)).right m).parts.length:=by
   intro h12
   rw[hnar,if_pos h12] at h0
   exact h0 (by decide)
  rw[if_neg h12] at hnar
  have hsome:(narL (wideP name x p (meetG m (ownG x r) p.region)) m).1=some ⟨false,m,carryP (wideP name x p (meetG m (ownG x r) p.region)).left (wideP name x p (meetG m (ownG x r) p.region)).right m⟩:=by rw[hnar]
  have hfw:=fun s=>narL_fwd hsome s
  have hgood:=narL_good hsome
  refine⟨⟨h4,hv,h5,?_,?_,?_,kindP_ok⟩,rfl,rfl,fun c l hc hh=>?_,fun hk=>?_⟩
  ·show ruleErr (Option.getD _ zeroR)=0
   rw[hsome]
   exact hgood
  ·show (Option.getD _ zeroR).left=_
   rw[hsome]
   rfl
  ·show (Option.getD _ zeroR).excl=_
   rw[hsome]
   rfl
  ·show fwd (Option.getD _ zeroR) c=_
   rw[hsome]
   have hml:matchL m l=true:=hasG_left' hh
   rw[Option.getD_some,hfw c,matchS_path m4 hc,hml,if_pos rfl]
   unfold srcP wideP
   by_cases k3:p.kind=3
   ·rw[if_pos k3,if_pos k3]
   ·rw[if_neg k3,if_neg k3]
    by_cases x3:x.kind=3
    ·rw[if_pos x3,if_pos x3]
    ·rw[if_neg x3,if_neg x3]
     unfold fwd
     rw[if_pos (ruleErr_twin.2 (stored_twin m4 hv hn)),hc]
     simp only[hb]
     rw[if_pos hml,stored_tr m4 hv hn hml]
  ·show (Option.getD _ zeroR).right=_
   rw[hsome,Option.getD_some]
   have hk':kindP x p≠3:=hk
   unfold kindP at hk'
   by_cases k3:p.kind=3
   ·rw[if_pos k3] at hk'
    exact absurd rfl hk'
   ·rw[if_neg k3] at hk'
    by_cases x3:x.kind=3
    ·rw[if_pos x3] at hk'
     exact absurd rfl hk'
    ·show carryP _ _ m=storedP m name
     unfold wideP
     rw[if_neg k3,if_neg x3]
     exact carry_self (stored_twin m4 hv hn)
def cntP (ps:List Pc) (l:List Str):Nat:=ps.countP fun p=>hasG p.region l
theorem cntP_app (a b:List Pc) (l:List Str):cntP (a++b) l=cntP a l+cntP b l:=List.countP_append ..
theorem meetR_zero_has {x y:Reg} (h:(meetR x y).2=0) {l:List Str} (hc:l.all comp=true):((meetR x y).1.any fun g=>hasG g l)=(hasG x l && hasG y l):=by
 have:=(meetR_has h).2.2 l hc
 rcases hm:(meetR x y).1 with _ | g
 ·rw[hm] at this
  exact this
 ·rw[hm] at this
  exact this
theorem stepPs_spec {name:Str} {x:Line} {r:List Line} (hn:comp name=true) (hx:lineOk x=true):∀(ups:List Pc) (acc out:List Pc),(∀p∈ups,PcUp p)→stepPs name (ownG x r) x ups acc=some out →
  ∃news,out=acc++news∧(∀q∈news,∃p∈ups,(meetR (ownG x r) p.region).1=some q.region∧narP name x p q.region=some q)∧∀l:List Str,l.all comp=true→cntP news l=if hasG (ownG x r) l then cntP ups l else 0
 |[],acc,out,_,h=>by
  obtain rfl:=Option.some.inj h
  refine⟨[],by simp,fun q hq=>(by cases hq),fun l _=>?_⟩
  unfold cntP
  split <;> rfl
 |p :: ps,acc,out,hu,h=>by
  unfold stepPs at h
  by_cases h0:(meetR (ownG x r) p.region).2≠0
  ·rw[if_pos h0] at h
   cases h
  ·rw[if_neg h0] at h
   have hz:(meetR (ownG x r) p.region).2=0:=by simpa using h0
   have hup:∀p∈ps,PcUp p:=fun p hp=>hu p (List.mem_cons_of_mem _ hp)
   rcases hm:(meetR (ownG x r) p.region).1 with _ | g
   ·rw[hm] at h
    simp only at h
    obtain⟨news,h1,h2,h3⟩:=stepPs_spec hn hx ps acc out hup h
    refine⟨news,h1,fun q hq=>?_,fun l hc=>?_⟩
    ·obtain⟨p',hp',h4⟩:=h2 q hq
     exact⟨p',List.mem_cons_of_mem _ hp',h4⟩
    ·rw[h3 l hc]
     have hh:=meetR_zero_has hz hc
     rw[hm] at hh
     have hh':(hasG (ownG x r) l && hasG p.region l)=false:=hh.symm
     cases ho:hasG (ownG x r) l with
     |false=>rfl
     |true=>
      rw[ho,Bool.true_and] at hh'
      simp only[if_true]
      unfold cntP
      rw[List.countP_cons,hh']
      rfl
   ·rw[hm] at h
    simp only at h
    rcases hq:narP name x p g with _ | q
    ·rw[hq] at h
     cases h
    ·rw[hq] at h
     simp only at h
     by_cases h32:acc.length=32
     ·rw[if_pos h32] at h
      cases h
     ·rw[if_neg h32] at h
      obtain⟨news,h1,h2,h3⟩:=stepPs_spec hn hx ps (acc++[q]) out hup h
      have hok:=narP_ok hn hx (hu p List.mem_cons_self) hm hq
      refine⟨q :: news,by rw[h1,List.append_assoc];rfl,fun z hz'=>?_,fun l hc=>?_⟩
      ·rcases List.mem_cons.1 hz' with rfl | hz'
       ·exact⟨p,List.mem_cons_self,by rw[hok.2.1];exact hm,by rw[hok.2.1];exact hq⟩
       ·obtain⟨p',hp',h4⟩:=h2 z hz'
        exact⟨p',List.mem_cons_of_mem _ hp',h4⟩
      ·have hh:=meetR_zero_has hz hc
       rw[hm] at hh
       have hh':hasG q.region l=(hasG (ownG x r) l && hasG p.region l):=by rw[hok.2.1];exact hh
       have e1:cntP (q :: news) l=cntP news l+if hasG q.region l then 1 else 0:=by
        unfold cntP
        rw[List.countP_cons]
       have e2:cntP (p :: ps) l=cntP ps l+if hasG p.region l then 1 else 0:=by
        unfold cntP
        rw[List.countP_cons]
       rw[e1,e2,h3 l hc,hh']
       cases hasG (ownG x r) l <;> cases hasG p.region l <;> simp
theorem decLine_cons (x:Line) (r:List Line) (c:Str):decLine (x :: r) c=match decLine r c with
  |some y=>some y
  |none=>if matchS x.path c then some x else none:=by
 have key:∀(ls:List Line) (a:Option Line),ls.foldl (fun a x=>if matchS x.path c then some x else a) a=(ls.foldl (fun a x=>if matchS x.path c then some x else a) none).or a:=by
  intro ls
  induction ls with
  |nil=>intro a;rfl
  |cons y l ih=>
   intro a
   rw[List.foldl_cons,List.foldl_cons,ih,ih (if matchS y.path c=true then some y else none),Option.or_assoc]
   congr 1
   split <;> rfl
 have e:decLine (x :: r) c=(decLine r c).or (if matchS x.path c then some x else none):=by
  unfold decLine
  rw[List.foldl_cons,key]
 rw[e]
 rcases decLine r c with _ | y <;> rfl
theorem decLine_any {ls:List Line} {c:Str}:(decLine ls c).isSome=ls.any fun y=>matchS y.path c:=by
 induction ls with
 |nil=>rfl
 |cons x r ih=>
  rw[decLine_cons,List.any_cons,←ih]
  rcases decLine r c with _ | y
  ·cases matchS x.path c <;> rfl
  ·cases matchS x.path c <;> rfl
def liveL (ls:List Line) (c:Str):Option Line:=match decLine ls c with
 |some x=>if x.kind=4 then none else some x
 |none=>none
theorem linesPs_spec {name:Str} {up:List Pc} (hn:comp name=true) (hu:∀p∈up,PcUp p):∀(ls:List Line) (acc out:List Pc),(∀x∈ls,lineOk x=true)→linesPs name up ls acc=some out →
  ∃news,out=acc++news∧(∀q∈news,PcOk q∧(q.kind≠3→q.line.right=storedP q.region.b name))∧(∀c l,pathOf c=some l→∀q∈news,hasG q.region l=true→∃x,liveL ls c=some x∧∃p∈up,hasG p.region l=true∧q.kind=kindP x p∧fwd q.line c=srcP name x p c l)∧∀c l,pathOf c=some l→cntP news l=if (liveL ls c).isSome then cntP up l else 0
 |[],acc,out,_,h=>by
  obtain rfl:=Option.some.inj h
  exact⟨[],by simp,fun q hq=>(by cases hq),fun c l _ q hq=>(by cases hq),fun c l _=>rfl⟩
 |x :: r,acc,out,hl,h=>by
  have hx:=hl x List.mem_cons_self
  have hr:∀y∈r,lineOk y=true:=fun y hy=>hl y (List.mem_cons_of_mem _ hy)
  unfold linesPs at h
  by_cases h4:x.kind=4
  ·rw[if_pos h4] at h
   obtain⟨news,h1,h2,h3,h5⟩:=linesPs_spec hn hu r acc out hr h
   have hlive:∀c,liveL (x :: r) c=liveL r c:=fun c=>by
    unfold liveL
    rw[decLine_cons]
    rcases decLine r c with _ | y
    ·simp only
     by_cases hm:matchS x.path c=true
     ·rw[if_pos hm]
      simp only
      rw[if_pos h4]
     ·rw[if_neg hm]
    ·rfl
   refine⟨news,h1,h2,fun c l hp q hq hh=>?_,fun c l hp=>?_⟩
   ·rw[hlive c]
    exact h3 c l hp q hq hh
   ·rw[hlive c]
    exact h5 c l hp
  ·rw[if_neg h4] at h
   rcases hs:stepPs name (ownG x r) x up acc with _ | acc'
   ·rw[hs] at h
    cases h
   ·rw[hs] at h
    simp only at h
    obtain⟨n1,e1,e2,e3⟩:=stepPs_spec hn hx up acc acc' hu hs
    obtain⟨n2,h1,h2,h3,h5⟩:=linesPs_spec hn hu r acc' out hr h
    have hlive:∀c,liveL (x :: r) c=if matchS x.path c && !(r.any fun y=>matchS y.path c) then some x else liveL r c:=fun c=>by
     unfold liveL
     rw[decLine_cons,←decLine_any]
     rcases decLine r c with _ | y
     ·simp only
      cases matchS x.path c with
      |false=>rfl
      |true=>simp[h4]
     ·simp
    have hnone:∀c,(matchS x.path c && !(r.any fun y=>matchS y.path c))=true→liveL r c=none:=fun c hc=>by
     rw[Bool.and_eq_true,←decLine_any] at hc
     unfold liveL
     rcases hd:decLine r c with _ | y
     ·rfl
     ·rw[hd] at hc
      simp at hc
    refine⟨n1++n2,by rw[h1,e1,List.append_assoc],fun q hq=>?_,fun c l hp q hq hh=>?_,fun c l hp=>?_⟩
    ·rcases List.mem_append.1 hq with hq | hq
     ·obtain⟨p,hp,g1,g2⟩:=e2 q hq
      have:=narP_ok hn hx (hu p hp) g1 g2
      exact⟨this.1,this.2.2.2.2⟩
     ·exact h2 q hq
    ·have hc:=(pathOf_some hp).2.1
     rcases List.mem_append.1 hq with hq | hq
     ·obtain⟨p,hpm,g1,g2⟩:=e2 q hq
      obtain⟨k1,k2,k3,k4,_⟩:=narP_ok hn hx (hu p hpm) g1 g2
      have hz:=(meetR_some g1).2.2.1
      have hb:=meetR_zero_has hz hc
      rw[g1] at hb
      have hb':hasG q.region l=(hasG (ownG x r) l && hasG p.region l):=hb
      rw[hh] at hb'
      obtain⟨b1,b2⟩:=(Bool.and_eq_true _ _).mp hb'.symm
      rw[ownG_has hx hr hp] at b1
      exact⟨x,by rw[hlive c,if_pos b1],p,hpm,b2,k3,k4 c l hp hh⟩
     ·obtain⟨y,g1,g2⟩:=h3 c l hp q hq hh
      refine⟨y,?_,g2⟩
      rw[hlive c]
      by_cases hb:(matchS x.path c && !(r.any fun y=>matchS y.path c))=true
      ·rw[hnone c hb] at g1
       cases g1
      ·rw[if_neg hb]
       exact g1
    ·have hc:=(pathOf_some hp).2.1
     rw[cntP_app,e3 l hc,h5 c l hp,hlive c,ownG_has hx hr hp]
     by_cases hb:(matchS x.path c && !(r.any fun y=>matchS y.path c))=true
     ·rw[if_pos hb,if_pos hb,hnone c hb]
      simp
     ·rw[if_neg hb,if_neg hb]
      simp
end Go.Proofs.YtcofdlipapnohaaGreatDoor.Sy
