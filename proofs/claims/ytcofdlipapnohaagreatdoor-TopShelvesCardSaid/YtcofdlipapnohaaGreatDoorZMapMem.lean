/- Rows of patterns and of entries as arguments of at most 1048576 values. -/
import Derived.Test.YtcofdlipapnohaaGreatDoorZRSameG
set_option linter.unusedVariables false
set_option linter.unusedSimpArgs false
namespace Go.Proofs.YtcofdlipapnohaaGreatDoor
open Go Go.RowKit Sy
structure PatsU (w:World) (A:Option Addr) (ps:List Pat):Prop where
 len:ps.length≤1048576
 at_:0 < ps.length→∃b o,A=some ⟨b,o,none⟩∧b < w.heap.size∧∀(k:Nat) p,ps[k]?=some p→∃Ak ck,w.cell? ⟨b,o+k * 2,none⟩=some (.slice Ak p.parts.length ck)∧w.cell? ⟨b,o+k * 2+1,none⟩=some (.bool p.rest)∧p.parts.length≤ck∧ck≤9223372036854775807∧StrsU w Ak p.parts
theorem PatsU.calm {w w':World} {A:Option Addr} {ps:List Pat} (h:PatsU w A ps) (hc:Calm w w'):PatsU w' A ps:=
 ⟨h.len,fun h0=>by
  obtain⟨b,o,rfl,hb,hk⟩:=h.at_ h0
  refine⟨b,o,rfl,Nat.lt_of_lt_of_le hb hc.size,fun k p hp=>?_⟩
  obtain⟨Ak,ck,h1,h2,h3,h4,h5⟩:=hk k p hp
  exact⟨Ak,ck,(hc.cell (p:=⟨b,o+k * 2,none⟩) hb).trans h1,(hc.cell (p:=⟨b,o+k * 2+1,none⟩) hb).trans h2,h3,h4,h5.calm hc⟩⟩
theorem PatsU.get {w:World} {A:Option Addr} {ps:List Pat} (h:PatsU w A ps) {k:Nat} (hk:k < ps.length):∃b o p Ak ck,A=some ⟨b,o,none⟩∧b < w.heap.size∧ps[k]?=some p∧w.cell? ⟨b,o+k * 2,none⟩=some (.slice Ak p.parts.length ck)∧w.cell? ⟨b,o+k * 2+1,none⟩=some (.bool p.rest)∧p.parts.length≤ck∧ck≤9223372036854775807∧StrsU w Ak p.parts:=by
 obtain⟨b,o,hA,hb,hc⟩:=h.at_ (by omega)
 obtain⟨Ak,ck,h1,h2,h3,h4,h5⟩:=hc k _ (List.getElem?_eq_getElem hk)
 exact⟨b,o,ps[k],Ak,ck,hA,hb,List.getElem?_eq_getElem hk,h1,h2,h3,h4,h5⟩
theorem PatsU.toR {w:World} {A:Option Addr} {ps:List Pat} (h:PatsU w A ps) (h1:ps.length≤16384) (h2:∀p∈ps,p.parts.length≤16384∧∀l∈p.parts,l.length≤16384):PatsR w A ps:=
 ⟨h1,fun h0=>by
  obtain⟨b,o,hA,hb,hk⟩:=h.at_ h0
  refine⟨b,o,hA,hb,fun k p hp=>?_⟩
  obtain⟨Ak,ck,g1,g2,g3,g4,g5⟩:=hk k p hp
  have:=h2 p (List.mem_of_getElem? hp)
  exact⟨Ak,ck,g1,g2,g3,g4,g5.toR this.1 this.2⟩⟩
theorem PatsU.places {w:World} {A:Option Addr} {ps:List Pat} (h:PatsU w A ps):∃l:List NewP,l.map (·.p)=ps∧ReadX encP 2 w A l∧∀x∈l,x.p.parts.length≤x.c∧x.c≤9223372036854775807∧StrsU w x.A x.p.parts:=by
 rcases Nat.eq_zero_or_pos ps.length with h0 | h0
 ·have:ps=[]:=List.eq_nil_of_length_eq_zero h0
  subst this
  exact⟨[],rfl,fun h=>absurd rfl h,fun x hx=>by cases hx⟩
 ·obtain⟨b,o,hA,hb,hk⟩:=h.at_ h0
  have each:∀k,k < ps.length→∃x:NewP,ps[k]?=some x.p∧w.cell? ⟨b,o+k * 2,none⟩=some (.slice x.A x.p.parts.length x.c)∧w.cell? ⟨b,o+k * 2+1,none⟩=some (.bool x.p.rest)∧x.p.parts.length≤x.c∧x.c≤9223372036854775807∧StrsU w x.A x.p.parts:=fun k hk2=>by
   obtain⟨Ak,ck,g1,g2,g3,g4,g5⟩:=hk k _ (List.getElem?_eq_getElem hk2)
   exact⟨⟨Ak,ck,ps[k]⟩,List.getElem?_eq_getElem hk2,g1,g2,g3,g4,g5⟩
  obtain⟨f,hf⟩:∃f:Nat→NewP,∀k,k < ps.length→ps[k]?=some (f k).p∧w.cell? ⟨b,o+k * 2,none⟩=some (.slice (f k).A (f k).p.parts.length (f k).c)∧w.cell? ⟨b,o+k * 2+1,none⟩=some (.bool (f k).p.rest)∧(f k).p.parts.length≤(f k).c∧(f k).c≤9223372036854775807∧StrsU w (f k).A (f k).p.parts:=by
   refine⟨fun k=>if hk2:k < ps.length then Classical.choose (each k hk2) else default,fun k hk2=>?_⟩
   simp only[dif_pos hk2]
   exact Classical.choose_spec (each k hk2)
  refine⟨(List.range ps.length).map f,?_,fun _=>⟨b,o,hA,hb,fun k x hx i u hu=>?_⟩,fun x hx=>?_⟩
  ·refine List.ext_getElem? fun k=>?_
   rw[List.getElem?_map,List.getElem?_map]
   by_cases hk2:k < ps.length
   ·rw[List.getElem?_range hk2,(hf k hk2).1]
    rfl
   ·rw[List.getElem?_eq_none (by simpa using hk2),List.getElem?_eq_none (by omega)]
    rfl
  ·rw[List.getElem?_map] at hx
   obtain⟨k',hk',rfl⟩:=Option.map_eq_some_iff.1 hx
   obtain⟨hlt,he⟩:=List.getElem?_eq_some_iff.1 hk'
   rw[List.getElem_range] at he
   subst he
   rw[List.length_range] at hlt
   obtain⟨_,g1,g2,_⟩:=hf k hlt
   match i,hu with
   |0,hu=>
    obtain rfl:=Option.some.inj hu
    exact g1
   |1,hu=>
    obtain rfl:=Option.some.inj hu
    exact g2
   |(n+2),hu=>simp[encP] at hu
  ·obtain⟨k,hk2,rfl⟩:=List.mem_map.1 hx
   obtain⟨_,_,_,g3,g4,g5⟩:=hf k (List.mem_range.1 hk2)
   exact⟨g3,g4,g5⟩
structure EntA (w:World) (z:NewE):Prop where
 l:StrsU w z.LA z.e.left.parts
 r:StrsU w z.RA z.e.right.parts
 h:PatsU w z.HA z.e.hs
 lroom:z.e.left.parts.length≤z.lc
 rroom:z.e.right.parts.length≤z.rc
 hroom:z.e.hs.length≤z.hc
 lcap:z.lc≤9223372036854775807
 rcap:z.rc≤9223372036854775807
 hcap:z.hc≤9223372036854775807
theorem EntA.calm {w w':World} {z:NewE} (h:EntA w z) (hc:Calm w w'):EntA w' z:=⟨h.l.calm hc,h.r.calm hc,h.h.calm hc,h.lroom,h.rroom,h.hroom,h.lcap,h.rcap,h.hcap⟩
def NewE.pl (z:NewE):Pl:=⟨z.LA,z.lc,z.RA,z.rc⟩
theorem EntA.rule {w:World} {z:NewE} (h:EntA w z):RuleU w z.pl z.e.rule:=⟨h.l,h.r,h.lroom,h.rroom,h.lcap,h.rcap⟩
structure SizeE (K:Nat) (x:Ent):Prop where
 lp:x.left.parts.length≤300
 ls:∀s∈x.left.parts,s.length≤K
 rp:x.right.parts.length≤300
 rs:∀s∈x.right.parts,s.length≤K
 h:∀p∈x.hs,p.parts.length≤300∧∀s∈p.parts,s.length≤K
abbrev SmallE (x:Ent):Prop:=SizeE 250 x
theorem SizeE.mono {K L:Nat} {x:Ent} (h:SizeE K x) (hk:K≤L):SizeE L x:=⟨h.lp,fun s hs=>Nat.le_trans (h.ls s hs) hk,h.rp,fun s hs=>Nat.le_trans (h.rs s hs) hk,fun p hp=>⟨(h.h p hp).1,fun s hs=>Nat.le_trans ((h.h p hp).2 s hs) hk⟩⟩
theorem EntA.u {w:World} {z:NewE} (h:EntA w z) (hs:SmallE z.e) (hl:z.e.hs.length≤16384):EntU w z:=
 ⟨⟨h.l.toR (by have:=hs.lp;omega) (fun s hs'=>by have:=hs.ls s hs';omega),h.lroom,h.lcap⟩,⟨h.r.toR (by have:=hs.rp;omega) (fun s hs'=>by have:=hs.rs s hs';omega),h.rroom,h.rcap⟩,
  h.h.toR hl (fun p hp=>⟨by have:=(hs.h p hp).1;omega,fun s hs'=>by have:=(hs.h p hp).2 s hs';omega⟩),h.hroom,h.hcap⟩
end Go.Proofs.YtcofdlipapnohaaGreatDoor
