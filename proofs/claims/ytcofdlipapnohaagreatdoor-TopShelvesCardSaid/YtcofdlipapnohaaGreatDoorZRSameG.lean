/- Walk: the reference's Same of regions, at equal ones. -/
import Derived.Lib.AppendZeros
import Derived.Lib.SliceRun
import Derived.Test.YtcofdlipapnohaaGreatDoorZMeetP
import Derived.Test.YtcofdlipapnohaaGreatDoorZEdRow
import Derived.Test.YtcofdlipapnohaaGreatDoorZReduceL
import Derived.Test.YtcofdlipapnohaaGreatDoorZNewS
import Derived.Test.YtcofdlipapnohaaGreatDoorZSrvB
import Derived.Test.YtcofdlipapnohaaGreatDoorZStrLaw
import Derived.Test.YtcofdlipapnohaaGreatDoorZNarL
import Derived.Test.YtcofdlipapnohaaGreatDoorZRuleW
set_option linter.unusedVariables false
set_option linter.unusedSimpArgs false
namespace Go.Proofs.YtcofdlipapnohaaGreatDoor
open Go Go.RowKit Sy
variable {α:Type} {enc:α→List Value} {K:Nat} {T:TypeId}
structure PatsX (w:World) (A:Option Addr) (l:List NewP):Prop where
 each:∀x∈l,PatA w x.A x.c x.p
 read:ReadX encP 2 w A l
theorem PatsX.calm {w w':World} {A:Option Addr} {l:List NewP} (h:PatsX w A l) (hc:Calm w w'):PatsX w' A l:=⟨fun x hx=>(h.each x hx).calm hc,h.read.calm hc⟩
theorem PatsX.reads {w:World} {A:Option Addr} {l:List NewP} (h:PatsX w A l) (hl:l.length≤16384):PatsR w A (l.map (·.p)):=by
 refine⟨by rw[List.length_map];exact hl,fun h0=>?_⟩
 rw[List.length_map] at h0
 obtain⟨b,o,hA,hb,hk⟩:=h.read (List.length_pos_iff.1 h0)
 refine⟨b,o,hA,hb,fun k p hp=>?_⟩
 rw[List.getElem?_map] at hp
 obtain⟨x,hx,rfl⟩:=Option.map_eq_some_iff.1 hp
 have hpa:=h.each x (List.mem_of_getElem? hx)
 exact⟨x.A,x.c,hk k x hx 0 _ rfl,hk k x hx 1 _ rfl,hpa.room,hpa.cap,hpa.r⟩
theorem PatsR.places {w:World} {A:Option Addr} {ps:List Pat} (h:PatsR w A ps):∃l:List NewP,l.map (·.p)=ps∧PatsX w A l:=by
 rcases Nat.eq_zero_or_pos ps.length with h0 | h0
 ·have:ps=[]:=List.eq_nil_of_length_eq_zero h0
  subst this
  exact⟨[],rfl,(fun x hx=>by cases hx),fun hne=>absurd rfl hne⟩
 ·obtain⟨b,o,hA,hb,hc⟩:=h.at_ h0
  have hex:∀k:Fin ps.length,∃r:NewP,r.p=ps[k]∧PatA w r.A r.c r.p∧w.cell? ⟨b,o+k.val * 2,none⟩=some (.slice r.A r.p.parts.length r.c)∧w.cell? ⟨b,o+k.val * 2+1,none⟩=some (.bool r.p.rest):=fun k=>by
   obtain⟨Ak,ck,g1,g2,g3,g4,g5⟩:=hc k.val _ (List.getElem?_eq_getElem k.isLt)
   exact⟨⟨Ak,ck,ps[k]⟩,rfl,⟨g5,g3,g4⟩,g1,g2⟩
  let f:Fin ps.length→NewP:=fun k=>Classical.choose (hex k)
  have hf:∀k,(f k).p=ps[k]∧PatA w (f k).A (f k).c (f k).p∧w.cell? ⟨b,o+k.val * 2,none⟩=some (.slice (f k).A (f k).p.parts.length (f k).c)∧w.cell? ⟨b,o+k.val * 2+1,none⟩=some (.bool (f k).p.rest):=fun k=>Classical.choose_spec (hex k)
  refine⟨List.ofFn f,?_,fun x hx=>?_,fun _=>⟨b,o,hA,hb,fun k x hk i u hu=>?_⟩⟩
  ·apply List.ext_getElem
   ·simp
   ·intro j h1 h2
    simp only[List.getElem_map,List.getElem_ofFn]
    exact (hf ⟨j,h2⟩).1
  ·obtain⟨k,rfl⟩:=List.mem_ofFn.1 hx
   exact (hf k).2.1
  ·obtain⟨hlt,he⟩:=List.getElem?_eq_some_iff.1 hk
   simp only[List.getElem_ofFn] at he
   have hlt2:k < ps.length:=by simpa using hlt
   have:=hf ⟨k,hlt2⟩
   rw[he] at this
   match i,hu with
   |0,hu=>obtain rfl:=Option.some.inj hu;exact this.2.2.1
   |1,hu=>obtain rfl:=Option.some.inj hu;exact this.2.2.2
   |i+2,hu=>simp[encP] at hu
theorem PatsN.places {w:World} {B:Nat} {A:Option Addr} {c:Nat} {ps:List Pat} (h:PatsN w B A c ps):∃l:List NewP,l.map (·.p)=ps∧PatsX w A l:=by
 obtain⟨l,h1,h2,h3⟩:=h.ex
 refine⟨l,h1,fun x hx=>(h3 x hx).a,fun hne=>?_⟩
 rcases h2 with⟨_,h2⟩ | ⟨g,hA,hg,hr⟩
 ·rw[h2,List.map_eq_nil_iff] at h1
  exact absurd h1 hne
 ·exact⟨g,0,hA,hr.lt,hr.cell⟩
theorem PatsN.reads {w:World} {B:Nat} {A:Option Addr} {c:Nat} {ps:List Pat} (h:PatsN w B A c ps) (hl:ps.length≤16384):PatsR w A ps:=by
 obtain⟨l,h1,h2⟩:=h.places
 rw[←h1] at hl ⊢
 rw[List.length_map] at hl
 exact h2.reads hl
theorem OwnX.places {w0 wr:World} {v:Value} {l:List NewP} (h:OwnX encP 2 65 w0 wr v l) (he:∀x∈l,PatA wr x.A x.c x.p):∃A c,v=.slice A l.length c∧l.length≤c∧c≤9223372036854775807∧PatsX wr A l:=by
 rcases h.row encP_len with⟨rfl,h0⟩ | ⟨g,c,rfl,h1,h2,_,hr⟩
 ·subst h0
  exact⟨none,0,rfl,Nat.le_refl _,by omega,he,fun hne=>absurd rfl hne⟩
 ·exact⟨_,c,rfl,h1,h2,he,fun _=>⟨g,0,rfl,hr.lt,hr.cell⟩⟩
theorem wpList_append_ps {ops:Array Oper} {rest:List Oper} {o:Oper} {a:Act} {Q:Exit→Act→World→Prop} {w:World} (hgd:o.guard=none) (s x:Operand)
  (ho:o.op=.call { callee:=.builtin .append,args:=#[s,x],argTypes:=#[212,212] }) (w0:World) (v:Value) (l m:List NewP) (hs:a.eval s=v) (hown:OwnX encP 2 65 w0 w v l) (A:Option Addr) (n c:Nat) (hx:a.eval x=.slice A n c) (hm:m.length=n)
  (hrd:ReadX encP 2 w A m) (hl:l.length+n≤1000000)
  (h:∀v' w',OwnX encP 2 65 w0 w' v' (l++m)→w.grownBy w' v.ownBlock→wpList Tryz.prog ops Q rest (a.put o.dst v') w'):wpList Tryz.prog ops Q (o :: rest) a w:=by
 refine wpList_plain hgd fun _ hK=>?_
 obtain⟨i0,hi0,hz0,hz1,hz2⟩:=info_parts info_patE
 obtain⟨v',w',hr,h2,h3⟩:=run_append_xs (P:=Tryz.prog) (ty:=o.type) (c:=c) Tryz.underlying212 hi0 hz0 hz1 hz2 rfl (by decide) encP_len encP_one hown hm hrd (by omega) (by decide)
 unfold Oper.wp execOp
 simp only[ho,resolve,invoke,builtin,Sem.run_bind,Sem.run_pure,Result.andThen_ok,List.map_toArray,List.map_cons,List.map_nil,hs,hx]
 rw[hr]
 exact hK _ _ (h v' w' h2 h3)
theorem PatsN.set {w:World} {B:Nat} {A:Option Addr} {c:Nat} {ps:List Pat} (h:PatsN w B A c ps) {p:Addr} (u:Value) (hp:p.block < B):PatsN (w.setCell p u) B A c ps:=by
 obtain⟨l,h1,h2,h3⟩:=h.ex
 refine⟨⟨l,h1,?_,fun x hx=>(h3 x hx).set u hp⟩,h.room,h.cap⟩
 rcases h2 with h2 | ⟨g,hA,hg,hr⟩
 ·exact .inl h2
 ·exact .inr ⟨g,hA,hg,hr.of_block (Deep.blk_setCell_other _ _ _ _ (by omega))⟩
theorem PatsN.mono {w:World} {B B':Nat} {A:Option Addr} {c:Nat} {ps:List Pat} (h:PatsN w B A c ps) (hB:B'≤B):PatsN w B' A c ps:=by
 obtain⟨l,h1,h2,h3⟩:=h.ex
 refine⟨⟨l,h1,?_,fun x hx=>(h3 x hx).mono hB⟩,h.room,h.cap⟩
 rcases h2 with h2 | ⟨g,hA,hg,hr⟩
 ·exact .inl h2
 ·exact .inr ⟨g,hA,Nat.le_trans hB hg,hr⟩
theorem PatsN.calm {w w':World} {B:Nat} {A:Option Addr} {c:Nat} {ps:List Pat} (h:PatsN w B A c ps) (hc:Calm w w'):PatsN w' B A c ps:=by
 obtain⟨l,h1,h2,h3⟩:=h.ex
 refine⟨⟨l,h1,?_,fun x hx=>(h3 x hx).calm hc⟩,h.room,h.cap⟩
 rcases h2 with h2 | ⟨g,hA,hg,hr⟩
 ·exact .inl h2
 ·exact .inr ⟨g,hA,hg,hr.calm hc⟩
theorem PatsN.own {w w':World} {B:Nat} {A:Option Addr} {c:Nat} {ps:List Pat} (h:PatsN w B A c ps) {B0 n K:Nat} {v:Value} {T:TypeId} {xs:List Value} (hT:65≠T) (hS:9≠T) (hown:w.ownsRow B0 T K v n xs) (hg:w.grownBy w' v.ownBlock):PatsN w' B A c ps:=by
 obtain⟨l,h1,h2,h3⟩:=h.ex
 refine⟨⟨l,h1,?_,fun x hx=>(h3 x hx).own hS hown hg⟩,h.room,h.cap⟩
 rcases h2 with h2 | ⟨g,hA,hgB,hr⟩
 ·exact .inl h2
 ·refine .inr ⟨g,hA,hgB,hr.grown hg fun e=>?_⟩
  obtain⟨cs,hh⟩:=hr.kind
  rcases hown.2 with⟨rfl,_⟩ | ⟨g',cap,cur,rfl,_,hgh,_⟩
  ·simp[Value.ownBlock] at e
  ·have e2:g=g':=by simpa[Value.ownBlock] using e
   rw[e2,hgh] at hh
   injection hh with hh
   injection hh with _ ht
   exact hT ht.symm
end Go.Proofs.YtcofdlipapnohaaGreatDoor
namespace Go.Proofs.YtcofdlipapnohaaGreatDoor.Sy
structure Reg where
 b:Pat
 hs:List Pat
deriving DecidableEq,Inhabited
def gErr (g:Reg):Int:=regErr g.b g.hs
def bothErr (x y:Reg):Int:=if gErr x=0 then gErr y else gErr x
def hasG (g:Reg) (l:List Str):Bool:=hasL g.b g.hs l
def gLen (g:Reg):Nat:=leastLen g.b g.hs
def meetG (m:Pat) (x y:Reg):Reg:=⟨m,redL m (x.hs++y.hs)⟩
def meetR (x y:Reg):Option Reg × Int:=
 if bothErr x y≠0 then (none,bothErr x y) else
 match meetP x.b y.b with
 |none=>(none,0)
 |some m=>if 64 < (meetG m x y).hs.length then (none,52) else if gLen (meetG m x y)=0 then (none,0) else (some (meetG m x y),0)
theorem gErr_zero {g:Reg} (h:gErr g=0):patErr g.b=0∧(∀p∈g.hs,patErr p=0)∧g.hs.length≤64:=by
 unfold gErr regErr at h
 split at h
 ·cases h
 ·rename_i h1
  split at h
  ·cases h
  ·rename_i h2
   split at h
   ·cases h
   ·rename_i h3
    refine⟨by omega,fun p hp=>?_,by omega⟩
    rw[Bool.not_eq_true,List.any_eq_false] at h2
    have:=h2 p hp
    simpa using this
theorem gErr_of {g:Reg} (h1:patErr g.b=0) (h2:∀p∈g.hs,patErr p=0) (h3:g.hs.length≤64):gErr g=0:=by
 unfold gErr
 rw[regErr_end h1 (fun j h _ hj=>h2 h (List.mem_of_getElem? hj)),if_neg (by omega)]
theorem bothErr_zero {x y:Reg} (h:bothErr x y=0):gErr x=0∧gErr y=0:=by
 unfold bothErr at h
 split at h
 ·rename_i h1
  exact⟨h1,h⟩
 ·rename_i h1
  exact absurd h h1
/-! ### the intersection -/
theorem meetG_good {x y:Reg} {m:Pat} (hm:meetP x.b y.b=some m):patErr m=0∧∀p∈(meetG m x y).hs,patErr p=0:=⟨(meetP_some hm).2.2.2,fun p hp=>redL_good p hp⟩
theorem meetG_has {x y:Reg} {m:Pat} (hx:gErr x=0) (hy:gErr y=0) (hm:meetP x.b y.b=some m) {l:List Str} (hc:l.all comp=true):hasG (meetG m x y) l=(hasG x l && hasG y l):=by
 obtain⟨x1,x2,_⟩:=gErr_zero hx
 obtain⟨y1,y2,_⟩:=gErr_zero hy
 obtain⟨_,_,h3,h4⟩:=meetP_some hm
 show hasL m (redL m (x.hs++y.hs)) l=(hasL x.b x.hs l && hasL y.b y.hs l)
 rw[redL_has h4 (fun p hp=>(List.mem_append.1 hp).elim (x2 p) (y2 p)) hc]
 unfold hasL
 rw[meetL_match (allOk_of x1) (allOk_of y1) h3 hc,List.any_append]
 generalize x.hs.any (fun h=>matchL h l)=a
 generalize y.hs.any (fun h=>matchL h l)=b
 cases matchL x.b l <;> cases matchL y.b l <;> cases a <;> cases b <;> rfl
theorem meetG_none {x y:Reg} (hx:gErr x=0) (hy:gErr y=0) (hm:meetP x.b y.b=none) {l:List Str} (hc:l.all comp=true):(hasG x l && hasG y l)=false:=by
 rw[meetP,if_pos ⟨(gErr_zero hx).1,(gErr_zero hy).1⟩] at hm
 have:=meetL_nomatch hm hc
 unfold hasG hasL
 generalize x.hs.any (fun h=>matchL h l)=a
 generalize y.hs.any (fun h=>matchL h l)=b
 revert this
 cases matchL x.b l <;> cases matchL y.b l <;> cases a <;> cases b <;> simp
theorem pos_of {p:Pat} (h:patErr p=0):0 < p.parts.length:=(patErr_iff.1 h).1
theorem meetR_some {x y g:Reg} (h:(meetR x y).1=some g):gErr x=0∧gErr y=0∧(meetR x y).2=0∧gErr g=0∧gLen g≠0∧∃m,meetP x.b y.b=some m∧g=meetG m x y:=by
 unfold meetR at h ⊢
 split at h
 ·cases h
 ·rename_i h0
  obtain⟨hx,hy⟩:=bothErr_zero (by simpa using h0)
  rw[if_neg h0]
  rcases hm:meetP x.b y.b with _ | m
  ·rw[hm] at h
   cases h
  ·rw[hm] at h
   simp only at h ⊢
   split at h
   ·cases h
   ·rename_i h1
    split at h
    ·cases h
    ·rename_i h2
     obtain rfl:=Option.some.inj h
     rw[if_neg h1,if_neg h2]
     obtain⟨g1,g2⟩:=meetG_good hm
     exact⟨hx,hy,rfl,gErr_of g1 g2 (by omega),h2,m,rfl,rfl⟩
theorem meetR_has {x y:Reg} (h:(meetR x y).2=0):gErr x=0∧gErr y=0∧∀l:List Str,l.all comp=true→(match (meetR x y).1 with | some g=>hasG g l | none=>false)=(hasG x l && hasG y l):=by
 by_cases h0:bothErr x y=0
 ·obtain⟨hx,hy⟩:=bothErr_zero h0
  refine⟨hx,hy,fun l hc=>?_⟩
  unfold meetR at h ⊢
  rw[if_neg (by simpa using h0)] at h ⊢
  rcases hm:meetP x.b y.b with _ | m
  ·exact (meetG_none hx hy hm hc).symm
  ·rw[hm] at h
   simp only at h ⊢
   have hh:=meetG_has hx hy hm hc
   split at h
   ·cases h
   ·rename_i h1
    rw[if_neg h1]
    by_cases h2:gLen (meetG m x y)=0
    ·have h3:hasG (meetG m x y) l=false:=least_none (b:=(meetG m x y).b) (pos_of (meetG_good hm).1) h2 hc
     rw[if_pos h2,←hh,h3]
    ·rw[if_neg h2]
     exact hh
 ·unfold meetR at h
  rw[if_pos h0] at h
  exact absurd h h0
end Go.Proofs.YtcofdlipapnohaaGreatDoor.Sy
namespace Go.Proofs.YtcofdlipapnohaaGreatDoor
open Go Go.RowKit Sy
structure RegN (w:World) (B:Nat) (A:Option Addr) (c:Nat) (HA:Option Addr) (hc:Nat) (g:Reg):Prop where
 base:SmallN w B ⟨A,c,g.b⟩
 holes:PatsN w B HA hc g.hs
theorem RegN.calm {w w':World} {B:Nat} {A:Option Addr} {c:Nat} {HA:Option Addr} {hc:Nat} {g:Reg} (h:RegN w B A c HA hc g) (hcm:Calm w w'):RegN w' B A c HA hc g:=⟨h.base.calm hcm,h.holes.calm hcm⟩
theorem RegN.mono {w:World} {B B':Nat} {A:Option Addr} {c:Nat} {HA:Option Addr} {hc:Nat} {g:Reg} (h:RegN w B A c HA hc g) (hB:B'≤B):RegN w B' A c HA hc g:=⟨h.base.mono hB,h.holes.mono hB⟩
theorem RegN.set {w:World} {B:Nat} {A:Option Addr} {c:Nat} {HA:Option Addr} {hc:Nat} {g:Reg} (h:RegN w B A c HA hc g) {p:Addr} (u:Value) (hp:p.block < B):RegN (w.setCell p u) B A c HA hc g:=⟨h.base.set u hp,h.holes.set u hp⟩
theorem regN_of {w:World} {B:Nat} {A:Option Addr} {c:Nat} {HA:Option Addr} {hc:Nat} {b:Pat} {hs:List Pat} (h1:NewS w B A c b.parts) (h2:PatsN w B HA hc hs) (h3:b.parts.length≤16384) (h4:∀l∈b.parts,l.length≤16384):RegN w B A c HA hc ⟨b,hs⟩:=⟨⟨h1,h3,h4⟩,h2⟩
structure NewG where
 A:Option Addr
 c:Nat
 HA:Option Addr
 hc:Nat
 g:Reg
deriving Inhabited
def NewG.ok (w:World) (B:Nat) (x:NewG):Prop:=RegN w B x.A x.c x.HA x.hc x.g
theorem RegN.own {w w':World} {B:Nat} {A:Option Addr} {c:Nat} {HA:Option Addr} {hc:Nat} {g:Reg} (h:RegN w B A c HA hc g) {B0 n K:Nat} {v:Value} {T:TypeId} {xs:List Value} (hT:65≠T) (hS:9≠T) (hown:w.ownsRow B0 T K v n xs) (hg:w.grownBy w' v.ownBlock):RegN w' B A c HA hc g:=⟨h.base.own hS hown hg,h.holes.own hT hS hown hg⟩
structure RuleN (w:World) (B:Nat) (a:Pl) (r:Rule):Prop where
 l:NewS w B a.AL a.cl r.left.parts
 r:NewS w B a.AR a.cr r.right.parts
theorem RuleN.u {w:World} {B:Nat} {a:Pl} {r:Rule} (h:RuleN w B a r):RuleU w a r:=⟨h.l.u,h.r.u,h.l.room,h.r.room,h.l.cap,h.r.cap⟩
theorem RuleN.calm {w w':World} {B:Nat} {a:Pl} {r:Rule} (h:RuleN w B a r) (hc:Calm w w'):RuleN w' B a r:=⟨h.l.calm hc,h.r.calm hc⟩
theorem RuleN.mono {w:World} {B B':Nat} {a:Pl} {r:Rule} (h:RuleN w B a r) (hB:B'≤B):RuleN w B' a r:=⟨h.l.mono hB,h.r.mono hB⟩
theorem RuleN.grown {w w':World} {B:Nat} {a:Pl} {r:Rule} (h:RuleN w B a r) {B0 n size:Nat} {v:Value} {T:TypeId} {xs:List Value} (hT:9≠T) (hown:w.ownsRow B0 T size v n xs) (hg:w.grownBy w' v.ownBlock):RuleN w' B a r:=⟨h.l.grown hT hown hg,h.r.grown hT hown hg⟩
end Go.Proofs.YtcofdlipapnohaaGreatDoor
namespace Go.Proofs.YtcofdlipapnohaaGreatDoor.Sy
structure Ent where
 left:Pat
 right:Pat
 hs:List Pat
deriving DecidableEq,Inhabited
def Ent.reg (x:Ent):Reg:=⟨x.left,x.hs⟩
def Ent.rule (x:Ent):Rule:=⟨false,x.left,x.right⟩
theorem matchS_path {p:Pat} (hp:patErr p=0) {s:Str} {l:List Str} (h:pathOf s=some l):matchS p s=matchL p l:=by
 unfold matchS
 rw[h]
 simp[okPat,hp]
end Go.Proofs.YtcofdlipapnohaaGreatDoor.Sy
namespace Go.Proofs.YtcofdlipapnohaaGreatDoor
open Go Go.RowKit Sy
structure SmallR (r:Rule):Prop where
 lp:r.left.parts.length≤16384
 ls:∀x∈r.left.parts,x.length≤16384
 rp:r.right.parts.length≤16384
 rs:∀x∈r.right.parts,x.length≤16384
theorem SmallR.turn {r:Rule} (h:SmallR r):SmallR r.turn:=⟨h.rp,h.rs,h.lp,h.ls⟩
theorem RuleU.left {w:World} {a:Pl} {r:Rule} (h:RuleU w a r) (hs:SmallR r):StrsR w a.AL r.left.parts:=h.lr.toR hs.lp hs.ls
theorem RuleU.right {w:World} {a:Pl} {r:Rule} (h:RuleU w a r) (hs:SmallR r):StrsR w a.AR r.right.parts:=h.rr.toR hs.rp hs.rs
structure NewE where
 LA:Option Addr
 lc:Nat
 RA:Option Addr
 rc:Nat
 HA:Option Addr
 hc:Nat
 e:Ent
deriving Inhabited
def encE (x:NewE):List Value:=[.slice x.LA x.e.left.parts.length x.lc,.bool x.e.left.rest,.slice x.RA x.e.right.parts.length x.rc,.bool x.e.right.rest,.slice x.HA x.e.hs.length x.hc]
theorem encE_len (x:NewE):(encE x).length=5:=rfl
theorem encE_one (x:NewE):∀u∈encE x,u.oneCell'=true:=by simp[encE,Value.oneCell']
theorem info_ent:(Tryz.prog.info? 218).map (fun i=>(i.zero,i.size,i.bytes))=some (some (.agg #[.slice none 0 0,.bool false,.slice none 0 0,.bool false,.slice none 0 0]),5,88):=by kernel_rfl
structure EntN (w:World) (B:Nat) (x:NewE):Prop where
 l:SmallN w B ⟨x.LA,x.lc,x.e.left⟩
 r:SmallN w B ⟨x.RA,x.rc,x.e.right⟩
 h:PatsN w B x.HA x.hc x.e.hs
 few:x.e.hs.length≤16384
theorem EntN.calm {w w':World} {B:Nat} {x:NewE} (h:EntN w B x) (hc:Calm w w'):EntN w' B x:=⟨h.l.calm hc,h.r.calm hc,h.h.calm hc,h.few⟩
theorem EntN.mono {w:World} {B B':Nat} {x:NewE} (h:EntN w B x) (hB:B'≤B):EntN w B' x:=⟨h.l.mono hB,h.r.mono hB,h.h.mono hB,h.few⟩
theorem EntN.own {w w':World} {B:Nat} {x:NewE} (h:EntN w B x) {B0 n K:Nat} {v:Value} {T:TypeId} {xs:List Value} (hT:65≠T) (hS:9≠T) (hown:w.ownsRow B0 T K v n xs) (hg:w.grownBy w' v.ownBlock):EntN w' B x:=
 ⟨h.l.own hS hown hg,h.r.own hS hown hg,h.h.own hT hS hown hg,h.few⟩
structure EntU (w:World) (z:NewE):Prop where
 l:PatA w z.LA z.lc z.e.left
 r:PatA w z.RA z.rc z.e.right
 h:PatsR w z.HA z.e.hs
 room:z.e.hs.length≤z.hc
 cap:z.hc≤9223372036854775807
theorem EntU.calm {w w':World} {z:NewE} (h:EntU w z) (hc:Calm w w'):EntU w' z:=⟨h.l.calm hc,h.r.calm hc,h.h.calm hc,h.room,h.cap⟩
theorem EntN.u {w:World} {B:Nat} {x:NewE} (h:EntN w B x):EntU w x:=⟨h.l.a,h.r.a,h.h.reads h.few,h.h.room,h.h.cap⟩
theorem read_newE {w:World} {n:Nat} (y:NewE) {l r h:Nat} {lb rb:Bool} (hn:w.heap.size=n) (hl:y.e.left.parts.length=l) (hlb:y.e.left.rest=lb) (hr:y.e.right.parts.length=r) (hrb:y.e.right.rest=rb) (hh:y.e.hs.length=h):ReadX encE 5 (w.alloc (.cells #[.slice y.LA l y.lc,.bool lb,.slice y.RA r y.rc,.bool rb,.slice y.HA h y.hc] 218)) (some ⟨n,0,none⟩) [y]:=fun _=>by
 refine⟨n,0,rfl,by rw[←hn];simp[go_sem],fun k x hk i u hu=>?_⟩
 have h0:k=0:=by
  have:=(List.getElem?_eq_some_iff.1 hk).1
  simp at this
  exact this
 subst h0
 obtain rfl:y=x:=by simpa using hk
 subst hn hl hlb hr hrb hh
 rw[cell_of_row _ w.heap.size _ _ _ _ (heap_alloc_new w _)]
 simpa[encE] using hu
theorem read_newH {w:World} {n:Nat} (y:NewP) {m:Nat} {r:Bool} (h:w.heap.size=n) (hm:y.p.parts.length=m) (hr:y.p.rest=r):ReadX encP 2 (w.alloc (.cells #[.slice y.A m y.c,.bool r] 65)) (some ⟨n,0,none⟩) [y]:=fun _=>by
 refine⟨n,0,rfl,by rw[←h];simp[go_sem],fun k x hk i u hu=>?_⟩
 have h0:k=0:=by
  have:=(List.getElem?_eq_some_iff.1 hk).1
  simp at this
  exact this
 subst h0
 obtain rfl:y=x:=by simpa using hk
 subst h hm hr
 rw[cell_of_row _ w.heap.size _ _ _ _ (heap_alloc_new w _)]
 simpa[encP] using hu
theorem take_snoc {α:Type} {ls:List α} {k:Nat} {q:α} (hq:ls[k]?=some q):ls.take (k+1)=ls.take k++[q]:=by
 rw[List.take_add_one,hq]
 rfl
end Go.Proofs.YtcofdlipapnohaaGreatDoor
