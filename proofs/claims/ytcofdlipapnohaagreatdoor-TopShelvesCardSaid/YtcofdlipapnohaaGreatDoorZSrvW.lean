/- Walks: what a client may write. -/
import Derived.Deep.RegionLaw
import Derived.BigQuiet
import Derived.Test.YtcofdlipapnohaaGreatDoorZPcsW
import Derived.Test.YtcofdlipapnohaaGreatDoorZRSameG
import Derived.Test.YtcofdlipapnohaaGreatDoorZRegB
import Derived.Test.YtcofdlipapnohaaGreatDoorZMapA
import Derived.Test.YtcofdlipapnohaaGreatDoorZPcL
import Derived.Test.YtcofdlipapnohaaGreatDoorZMeetP
import Derived.Test.YtcofdlipapnohaaGreatDoorZMapMem
import Derived.Test.YtcofdlipapnohaaGreatDoorZEnty
import Derived.Test.YtcofdlipapnohaaGreatDoorZFwdP
import Derived.Test.YtcofdlipapnohaaGreatDoorZSrvN
import Derived.Test.YtcofdlipapnohaaGreatDoorZLocate
set_option linter.unusedVariables false
set_option linter.unusedSimpArgs false
namespace Go.Proofs.YtcofdlipapnohaaGreatDoor
open Go Go.RowKit Sy
theorem stepPs_len {name:Str} {own:Reg} {x:Line}:∀(ups acc out:List Pc),stepPs name own x ups acc=some out→acc.length≤32→out.length≤32
 |[],acc,out,h,ha=>by
  obtain rfl:=Option.some.inj h
  exact ha
 |p :: ps,acc,out,h,ha=>by
  unfold stepPs at h
  by_cases h0:(meetR own p.region).2≠0
  ·rw[if_pos h0] at h
   cases h
  ·rw[if_neg h0] at h
   rcases hm:(meetR own p.region).1 with _ | g
   ·rw[hm] at h
    exact stepPs_len ps acc out h ha
   ·rw[hm] at h
    simp only at h
    rcases hq:narP name x p g with _ | q
    ·rw[hq] at h
     cases h
    ·rw[hq] at h
     simp only at h
     by_cases h32:acc.length=32
     ·rw[if_pos h32] at h
      cases h
     ·rw[if_neg h32] at h
      exact stepPs_len ps (acc++[q]) out h (by rw[List.length_append,List.length_singleton];omega)
theorem linesPs_len {name:Str} {up:List Pc}:∀(ls:List Line) (acc out:List Pc),linesPs name up ls acc=some out→acc.length≤32→out.length≤32
 |[],acc,out,h,ha=>by
  obtain rfl:=Option.some.inj h
  exact ha
 |x :: r,acc,out,h,ha=>by
  unfold linesPs at h
  by_cases h4:x.kind=4
  ·rw[if_pos h4] at h
   exact linesPs_len r acc out h ha
  ·rw[if_neg h4] at h
   rcases hs:stepPs name (ownG x r) x up acc with _ | acc'
   ·rw[hs] at h
    cases h
   ·rw[hs] at h
    exact linesPs_len r acc' out h (stepPs_len _ _ _ hs ha)
theorem pcs_none' {ss:List Strm} (h:Sy.Good ss) {i:Nat} (hp:parentI ss i=none):pcs ss i=wholeP (strm ss i).name (some rootPs) (strm ss i).paths:=by
 unfold pcs
 rw[h.none hp]
 rfl
theorem pcs_some' {ss:List Strm} (h:Sy.Good ss) {i p:Nat} (hp:parentI ss i=some p):pcs ss i=wholeP (strm ss i).name (pcs ss p) (strm ss i).paths:=by
 unfold pcs
 rw[h.some hp]
 conv=>lhs;unfold pcsL
 unfold wholeP
 rcases pcsL ss (p :: above ss p) with _ | u <;> rfl
theorem wholeP_len {nm:Str} {up:Option (List Pc)} {ls:List Line} {ps:List Pc} (h:wholeP nm up ls=some ps):ps.length≤32:=by
 unfold wholeP at h
 rcases up with _ | u
 ·cases h
 ·exact linesPs_len ls [] ps h (Nat.zero_le _)
theorem pcs_len {ss:List Strm} (h:Sy.Good ss) {i:Nat} {ps:List Pc} (hp:pcs ss i=some ps):ps.length≤32:=by
 rcases hpo:parentI ss i with _ | p
 ·rw[pcs_none' h hpo] at hp
  exact wholeP_len hp
 ·rw[pcs_some' h hpo] at hp
  exact wholeP_len hp
theorem pieces_c (ss:List Strm) (F:Nat) (A:Option Addr) (n c i:Nat) (hn:ss.length=n) (hg:Sy.Good ss) (hsm:SmallSS ss) (hz:StrmsZ ss) (hi:i < n):∀w,ForestAt w F A n c ss →
  Calls Tryz.prog 130 #[.pointer (some ⟨F,0,none⟩),.int .i64 i] w fun e w'=>PcsEnd (pcs ss i) e w'∧Calm w w':=by
 refine hg.above_ind (P:=fun i=>∀w,ForestAt w F A n c ss→Calls Tryz.prog 130 #[.pointer (some ⟨F,0,none⟩),.int .i64 i] w fun e w'=>PcsEnd (pcs ss i) e w'∧Calm w w') ?_ ?_ i (by omega)
 ·intro i hi hp w hf
  obtain⟨o1,o2,_,_,_,o6⟩:=ownErr_zero (hg.own i hi)
  rw[pcs_none' hg hp]
  exact pieces_step ss F A n c i none (some rootPs) w hf (by omega) hp (hsm.at_ hi) (hz.at_ hi) (hg.lines hi) o1 o2 (by omega) (fun _=>rfl) (fun ups h=>by
   obtain rfl:=Option.some.inj h
   exact⟨fun p hp=>⟨root_up p hp,root_z p hp⟩,by decide⟩) (fun W p _ h=>by cases h)
 ·intro i p hi hp ih w hf
  obtain⟨o1,o2,_,_,_,o6⟩:=ownErr_zero (hg.own i hi)
  have hpl:=parentI_lt hp
  rw[pcs_some' hg hp]
  exact pieces_step ss F A n c i (some p) (pcs ss p) w hf (by omega) hp (hsm.at_ hi) (hz.at_ hi) (hg.lines hi) o1 o2 (by omega) (fun h=>by cases h) (fun ups h=>⟨fun q hq=>⟨((pcs_mean hg p hpl ups h).ok q hq).up,(pcs_z hg hz p hpl ups h q hq).up⟩,pcs_len hg h⟩) (fun W q hW h=>by
   cases h
   exact ih W (hf.calm hW))
theorem results_none {fn:Func} (h:fn.results=#[]) (tmps:Array Value) (P:Program) (w:World):(results fn tmps).run P w=.ok (.tuple #[]) w:=by
 simp only[results,h]
 simp[Sem.run_bind,Result.andThen]
theorem NewS.blk {w w':World} {B:Nat} {A:Option Addr} {c:Nat} {ls:List Str} (h:NewS w B A c ls) (u:Value) {p:Addr} (hp:p.block < B):NewS (w.setCell p u) B A c ls:=h.set u hp
theorem EntN.set {w:World} {B:Nat} {x:NewE} (h:EntN w B x) {p:Addr} (u:Value) (hp:p.block < B):EntN (w.setCell p u) B x:=⟨h.l.set u hp,h.r.set u hp,h.h.set u hp,h.few⟩
end Go.Proofs.YtcofdlipapnohaaGreatDoor
namespace Go.Proofs.YtcofdlipapnohaaGreatDoor
open Go Go.RowKit
end Go.Proofs.YtcofdlipapnohaaGreatDoor
namespace Go.Proofs.YtcofdlipapnohaaGreatDoor
open Go Go.RowKit Sy
def EntOut (es:List Ent) (er:Int) (B:Nat) (e:Ending) (w':World):Prop:=∃A c,e=.returned (.tuple #[.slice A es.length c,.int .i64 er])∧es.length≤c∧c≤9223372036854775807∧∃zs:List NewE,zs.map (·.e)=es∧ReadX encE 5 w' A zs∧∀z∈zs,EntN w' B z
theorem entOut_err (er:Int) (B:Nat) (w':World):EntOut [] er B (.returned (.tuple #[.slice none 0 0,.int .i64 er])) w':=⟨none,0,rfl,Nat.le_refl _,by omega,[],rfl,fun h=>absurd rfl h,fun z hz=>by cases hz⟩
theorem PatsR.toU {w:World} {A:Option Addr} {ps:List Pat} (h:PatsR w A ps):PatsU w A ps:=
 ⟨by have:=h.len;omega,fun h0=>by
  obtain⟨b,o,hA,hb,hk⟩:=h.at_ h0
  refine⟨b,o,hA,hb,fun k p hp=>?_⟩
  obtain⟨Ak,ck,g1,g2,g3,g4,g5⟩:=hk k p hp
  exact⟨Ak,ck,g1,g2,g3,g4,g5.toU⟩⟩
theorem EntN.toA {w:World} {B:Nat} {z:NewE} (h:EntN w B z):EntA w z:=
 ⟨h.l.a.r.toU,h.r.a.r.toU,PatsR.toU (h.h.reads h.few),h.l.a.room,h.r.a.room,h.h.room,h.l.a.cap,h.r.a.cap,h.h.cap⟩
theorem entsP_stop:∀{ps:List Pc} {k:Nat} {p:Pc},ps[k]?=some p→entOfP p=none→entsP ps=none
 |[],k,p,h,_=>by simp at h
 |q :: r,0,p,h,h0=>by
  obtain rfl:q=p:=by simpa using h
  unfold entsP
  rw[h0]
 |q :: r,k+1,p,h,h0=>by
  have ih:=entsP_stop (ps:=r) (k:=k) (by simpa using h) h0
  unfold entsP
  rcases entOfP q with _ | e
  ·rfl
  ·simp only
   rw[ih]
   rfl
theorem entsP_snoc:∀{ps:List Pc} {p:Pc} {e:Ent} {es:List Ent},entsP ps=some es→entOfP p=some e→entsP (ps++[p])=some (es++[e])
 |[],p,e,es,h,he=>by
  obtain rfl:=Option.some.inj h
  simp only[List.nil_append]
  unfold entsP
  rw[he]
  rfl
 |q :: r,p,e,es,h,he=>by
  rw[List.cons_append]
  unfold entsP at h ⊢
  rcases hq:entOfP q with _ | e'
  ·rw[hq] at h
   cases h
  ·rw[hq] at h
   obtain⟨es',h1,rfl⟩:=Option.map_eq_some_iff.1 h
   simp only
   rw[entsP_snoc h1 he]
   rfl
structure EnsI (w0 wr:World) (v:Value) (ps:List Pc) (k:Nat) (zs:List NewE):Prop where
 own:OwnX encE 5 218 w0 wr v zs
 is:entsP (ps.take k)=some (zs.map (·.e))
 each:∀z∈zs,EntN wr w0.heap.size z
theorem EnsI.nil {w0:World} (ps:List Pc):EnsI w0 w0 (.slice none 0 0) ps 0 []:=⟨OwnX.nil (Calm.refl _),rfl,fun z hz=>by cases hz⟩
theorem EnsI.len {w0 wr:World} {v:Value} {ps:List Pc} {k:Nat} {zs:List NewE} (h:EnsI w0 wr v ps k zs):zs.length≤ps.length:=by
 have:=(entsP_at h.is).1
 rw[List.length_map,List.length_take] at this
 omega
theorem EnsI.add {w0 wr w2 w3:World} {v v2:Value} {ps:List Pc} {k:Nat} {zs:List NewE} {p:Pc} {y:NewE} (h:EnsI w0 wr v ps k zs) (hp:ps[k]?=some p) (he:entOfP p=some y.e) (hc:Calm wr w2) (hy:EntN w2 w0.heap.size y) (hg:w2.grownBy w3 v.ownBlock) (hown:OwnX encE 5 218 w0 w3 v2 (zs++[y])):EnsI w0 w3 v2 ps (k+1) (zs++[y]):=by
 refine⟨hown,?_,fun z hz=>?_⟩
 ·rw[take_snoc hp,entsP_snoc h.is he,List.map_append]
  rfl
 ·rcases List.mem_append.1 hz with hz | hz
  ·exact ((h.each z hz).calm hc).own (by decide) (by decide) (h.own.to hc).own hg
  ·rw[List.mem_singleton] at hz
   subst hz
   exact hy.own (by decide) (by decide) (h.own.to hc).own hg
def ViewEnd (x:Option (List Pc)) (B:Nat) (e:Ending) (w':World):Prop:=
 ((x=none∨∃ps,x=some ps∧entsP ps=none)∧e=.returned (.tuple #[.slice none 0 0,.slice none 0 0,.int .i64 80])) ∨
 (∃ps A c zs A' c',x=some ps∧entsP ps=some (zs.map (·.e))∧e=.returned (.tuple #[.slice A ps.length c,.slice A' zs.length c',.int .i64 0])∧PcsR w' A ps∧ps.length≤c∧c≤9223372036854775807∧ReadX encE 5 w' A' zs∧(∀z∈zs,EntN w' B z)∧zs.length≤c'∧c'≤9223372036854775807)
set_option maxRecDepth 100000 in
set_option maxHeartbeats 16000000 in
theorem view_c (ss:List Strm) (F:Nat) (A:Option Addr) (n c i:Nat) (w:World) (hf:ForestAt w F A n c ss) (hg:Sy.Good ss) (hsm:SmallSS ss) (hz:StrmsZ ss) (hi:i < n) :
  Calls Tryz.prog 92 #[.pointer (some ⟨F,0,none⟩),.int .i64 i] w fun e w'=>ViewEnd (pcs ss i) w.heap.size e w'∧Calm w w':=by
 have KP:=pieces_c ss F A n c i hf.hn hg hsm hz hi w hf
 have hok:∀ps,pcs ss i=some ps→ps.length≤32∧∀p∈ps,PcOk p∧PcZ p:=fun ps h=>⟨pcs_len hg h,fun p hp=>⟨(pcs_mean hg i (by rw[hf.hn];exact hi) ps h).ok p hp,pcs_z hg hz i (by rw[hf.hn];exact hi) ps h p hp⟩⟩
 obtain⟨po,hpo⟩:∃po,pcs ss i=po:=⟨_,rfl⟩
 rw[hpo] at KP hok ⊢
 have HOk:=Lib.hid hok
 clear hpo hok hf hg hsm hz hi
 go_enter Tryz.func92,Tryz.ntmps92
 go_wp2_with fail
 refine KP.mono ?_
 rintro e w2 ⟨hE,hc2⟩
 have HC2:=Lib.hid hc2
 clear hc2 KP
 rcases hE with⟨hx,rfl⟩ | ⟨ps,PA,pc,hx,rfl,hR,hr1,hr2⟩
 ·have HX:Hid (po=none):=hx
  clear hx
  go_wp2_with fail
  refine bodyPost_ret (results_tmp3 rfl _ _ _) rfl ?_
  exact⟨.inl ⟨.inl HX.out,rfl⟩,HC2.out⟩
 ·have HX:Hid (po=some ps):=hx
  obtain⟨np,hnp⟩:∃np,ps.length=np:=⟨_,rfl⟩
  rw[hnp] at hr1 ⊢
  have HNp:=Lib.hid hnp
  have h32:np≤32:=by
   rw[←hnp]
   exact (HOk.out ps hx).1
  have HPs:=Lib.hid (HOk.out ps hx).2
  have HR:=Lib.hid hR
  clear hx hnp hR
  go_wp2_with fail
  go_loopw [9,25] (fun v u wr=>∃(k:Nat) (zs:List NewE),k≤np∧u=.int .i64 k∧Hid (EnsI w2 wr v ps k zs)) (fun _ u _=>np - (intOf u).toNat)
  case atStart=>exact⟨0,[],Nat.zero_le _,rfl,EnsI.nil ps⟩
  case round=>
   obtain⟨k,zs,hk,rfl,HI⟩:=hrel
   obtain⟨wz,rfl⟩:∃wz,wz=wr:=⟨_,rfl⟩
   by_cases hlt:k < np
   ·obtain⟨bu,ou,z,rfl,hbu,hzm,hz9,hza⟩:=HR.out.get (k:=k) (by rw[HNp.out];exact hlt)
    obtain⟨gb,hgb⟩:∃gb,z.p.region.b.parts.length=gb:=⟨_,rfl⟩
    obtain⟨gr,hgr⟩:∃gr,z.p.region.b.rest=gr:=⟨_,rfl⟩
    obtain⟨gk,hgk⟩:∃gk,z.p.region.hs.length=gk:=⟨_,rfl⟩
    obtain⟨pk,hpk⟩:∃pk,z.p.kind=pk:=⟨_,rfl⟩
    obtain⟨ex,hex⟩:∃ex,z.p.line.excl=ex:=⟨_,rfl⟩
    obtain⟨il,hil⟩:∃il,z.p.line.left.parts.length=il:=⟨_,rfl⟩
    obtain⟨lr,hlr⟩:∃lr,z.p.line.left.rest=lr:=⟨_,rfl⟩
    obtain⟨ir,hir⟩:∃ir,z.p.line.right.parts.length=ir:=⟨_,rfl⟩
    obtain⟨rr,hrr⟩:∃rr,z.p.line.right.rest=rr:=⟨_,rfl⟩
    have cw:=HI.out.own.calm
    have x0:=Calm.at_ cw hz9.c0 hbu
    have x1:=Calm.at_ cw hz9.c1 hbu
    have x2:=Calm.at_ cw hz9.c2 hbu
    have x3:=Calm.at_ cw hz9.c3 hbu
    have x4:=Calm.at_ cw hz9.c4 hbu
    have x5:=Calm.at_ cw hz9.c5 hbu
    have x6:=Calm.at_ cw hz9.c6 hbu
    have x7:=Calm.at_ cw hz9.c7 hbu
    have x8:=Calm.at_ cw hz9.c8 hbu
    rw[hgb] at x0
    rw[hgr] at x1
    rw[hgk] at x2
    rw[hpk] at x3
    rw[hex] at x4
    rw[hil] at x5
    rw[hlr] at x6
    rw[hir] at x7
    rw[hrr] at x8
    have hbu:=Nat.lt_of_lt_of_le hbu cw.size
    have HZm:=Lib.hid hzm
    have hpo:=HPs.out z.p (List.mem_of_getElem? hzm)
    have HCa:Hid (Calm wz (wz.alloc (.cells #[.slice z.A gb z.c,.bool gr,.slice z.HA gk z.hc,.int .i64 pk,.bool ex,.slice z.a.AL il z.a.cl,.bool lr,.slice z.a.AR ir z.a.cr,.bool rr] 216))):=(Calm.refl _).alloc _
    have HEn:=Lib.hid (entry_c z gb gk il ir gr ex lr rr pk _ (hza.calm (cw.trans HCa.out)) hpo.1 hpo.2 hgk ⟨hil,hir,hlr,hrr,hex⟩)
    have HS5:Hid (w2.heap.size≤(wz.alloc (.cells #[.slice z.A gb z.c,.bool gr,.slice z.HA gk z.hc,.int .i64 pk,.bool ex,.slice z.a.AL il z.a.cl,.bool lr,.slice z.a.AR ir z.a.cr,.bool rr] 216)).heap.size):=(cw.trans HCa.out).size
    clear cw hz9 hza hzm hpo hgb hgr hgk hpk hex hil hlr hir hrr
    go_wp2_with fail
    refine HEn.out.mono ?_
    rintro e w5 ⟨hE,hc5⟩
    have HC5:Hid (Calm wz w5):=HCa.out.trans hc5
    clear hc5 x0 x1 x2 x3 x4 x5 x6 x7 x8 HEn
    rcases hE with⟨hx,rfl⟩ | ⟨y,hx,rfl,hN⟩
    ·have HNo:Hid (entsP ps=none):=entsP_stop HZm.out hx
     have HCe:Hid (Calm w w5):=HC2.out.trans (HI.out.own.calm.trans HC5.out)
     clear hx
     go_wp2_with fail
     refine bodyPost_ret (results_tmp3 rfl _ _ _) rfl ?_
     exact⟨.inl ⟨.inr ⟨ps,HX.out,HNo.out⟩,rfl⟩,HCe.out.alloc _⟩
    ·obtain⟨q1,hq1⟩:∃q1,y.e.left.parts.length=q1:=⟨_,rfl⟩
     obtain⟨q2,hq2⟩:∃q2,y.e.left.rest=q2:=⟨_,rfl⟩
     obtain⟨q3,hq3⟩:∃q3,y.e.right.parts.length=q3:=⟨_,rfl⟩
     obtain⟨q4,hq4⟩:∃q4,y.e.right.rest=q4:=⟨_,rfl⟩
     obtain⟨q5,hq5⟩:∃q5,y.e.hs.length=q5:=⟨_,rfl⟩
     have hen:(encE y).toArray=#[.slice y.LA q1 y.lc,.bool q2,.slice y.RA q3 y.rc,.bool q4,.slice y.HA q5 y.hc]:=by
      unfold encE
      rw[hq1,hq2,hq3,hq4,hq5]
     rw[hen]
     have HEp:Hid (entOfP z.p=some y.e):=hx
     have HN:Hid (EntN w5 w2.heap.size y):=hN.mono HS5.out
     have HQ:=Lib.hid (And.intro hq1 (And.intro hq2 (And.intro hq3 (And.intro hq4 hq5))))
     have hzl:=HI.out.len
     rw[HNp.out] at hzl
     clear hx hN hen hq1 hq2 hq3 hq4 hq5
     go_upto_region 11 with (fail)
     go_wp2_with (at_builtin;refine wpList_append_xs (enc:=encE) (K:=5) (T:=218) Tryz.underlying132 info_ent rfl (by decide) (by decide) encE_len encE_one rfl (.tmp 37) (.tmp 39) rfl w2 _ zs [y] rfl (HI.out.own.to (HC5.out.trans (((Calm.refl _).alloc _).alloc _))) _ 1 1 rfl rfl (read_newE y (by simp) HQ.out.1 HQ.out.2.1 HQ.out.2.2.1 HQ.out.2.2.2.1 HQ.out.2.2.2.2) (by omega) ?_;intro v7 w7 hown7 hg7)
     have HRel:=Lib.hid (HI.out.add (y:=y) HZm.out HEp.out (HC5.out.trans (((Calm.refl _).alloc _).alloc _)) (HN.out.calm (((Calm.refl _).alloc _).alloc _)) hg7 hown7)
     go_roundw
     case rel=>exact⟨k+1,zs++[y],by omega,by go_num,HRel⟩
     case measure=>simp[intOf];omega
   ·obtain rfl:k=np:=by omega
    have hes:entsP ps=some (zs.map (·.e)):=by
     have:=HI.out.is
     rw[List.take_of_length_le (by rw[HNp.out];exact Nat.le_refl _)] at this
     exact this
    obtain⟨A',c',hv,h1,h2,h3⟩:∃A' c',u9=.slice A' zs.length c'∧zs.length≤c'∧c'≤9223372036854775807∧ReadX encE 5 wz A' zs:=by
     rcases HI.out.own.row encE_len with⟨rfl,h0⟩ | ⟨g,c,rfl,h1,h2,_,hr⟩
     ·subst h0
      exact⟨none,0,rfl,Nat.le_refl _,by omega,fun h=>absurd rfl h⟩
     ·exact⟨_,c,rfl,h1,h2,fun _=>⟨g,0,rfl,hr.lt,fun k x hk i u hu=>hr.cell k x hk i u hu⟩⟩
    obtain⟨Z,hZ⟩:∃Z,zs.length=Z:=⟨_,rfl⟩
    rw[hZ] at hv
    subst hv
    have HCe:Hid (Calm w2 wz):=HI.out.own.calm
    have HFin:Hid (ViewEnd po w.heap.size (.returned (.tuple #[.slice PA k pc,.slice A' Z c',.int .i64 0])) wz):=.inr ⟨ps,PA,pc,zs,A',c',HX.out,hes,by rw[HNp.out,hZ],HR.out.calm HCe.out,by rw[HNp.out];exact hr1,hr2,h3,fun z hz=>(HI.out.each z hz).mono HC2.out.size,h1,h2⟩
    clear hes h1 h2 h3 hZ
    go_wp2_with fail
    refine bodyPost_ret (results_tmp3 rfl _ _ _) rfl ?_
    exact⟨HFin.out,HC2.out.trans HCe.out⟩
def viewR (ss:List Strm) (nm:Str):List Ent × Int:=if readyE ss nm≠0 then ([],readyE ss nm) else match viewI ss ((findI ss nm).getD 0) with
 |none=>([],80)
 |some es=>(es,0)
theorem viewR_bad {ss:List Strm} {nm:Str} (h:readyE ss nm≠0):viewR ss nm=([],readyE ss nm):=by unfold viewR;rw[if_pos h]
theorem viewR_none {ss:List Strm} {nm:Str} {i:Nat} (h:readyE ss nm=0) (hi:findI ss nm=some i) (hv:viewI ss i=none):viewR ss nm=([],80):=by
 unfold viewR
 rw[if_neg (by simpa using h),hi]
 simp[hv]
theorem viewR_some {ss:List Strm} {nm:Str} {i:Nat} {es:List Ent} (h:readyE ss nm=0) (hi:findI ss nm=some i) (hv:viewI ss i=some es):viewR ss nm=(es,0):=by
 unfold viewR
 rw[if_neg (by simpa using h),hi]
 simp[hv]
set_option maxHeartbeats 8000000 in
theorem View_c (ss:List Strm) (nm:Str) (A:Option Addr) (n c:Nat) (w:World) (hs:StrmsU w A ss) (hn:ss.length=n) (hnm:nm.length≤1048576) (hsm:SmallSS ss) (hz:StrmsZ ss) :
  Calls Tryz.prog 63 #[.slice A n c,.string (bs nm)] w fun e w'=>EntOut (viewR ss nm).1 (viewR ss nm).2 w.heap.size e w'∧Calm w w':=by
 have hk:=find_c ss nm A n c w hs hn hnm
 have HN:=Lib.hid hn
 have HSm:=Lib.hid hsm
 have HZ:=Lib.hid hz
 clear hs hn hsm hz
 go_enter Tryz.func63,Tryz.ntmps63
 go_wp2_with fail
 refine hk.mono ?_
 rintro e w1 ⟨hend,hc1⟩
 rcases hend with⟨x,hx0,hr,rfl⟩ | ⟨F,i,hr,hg,hfi,rfl,hf⟩
 ·have hxb:(x != 0)=true:=by simpa using hx0
  have hE:Hid (viewR ss nm=([],x)):=by
   show _=_
   rw[viewR_bad (by rw[hr];exact hx0),hr]
  clear hx0 hr hk
  go_wp2_with fail
  go_ret2
  exact⟨by rw[hE.out];exact entOut_err x _ _,hc1⟩
 ·have hil:i < n:=by rw[←HN.out];exact findI_lt hfi
  have KV:=Lib.hid (view_c ss F A n c i w1 hf hg HSm.out HZ.out hil)
  have HR:=Lib.hid (And.intro hr hfi)
  have HC1:=Lib.hid hc1
  clear hr hfi hf hg hk hc1
  go_wp2_with fail
  refine KV.out.mono ?_
  rintro e w2 ⟨hE,hc2⟩
  have HC2:=Lib.hid hc2
  clear hc2 KV
  rcases hE with⟨hx,rfl⟩ | ⟨ps,PA,pc,zs,A',c',hx,hes,rfl,hR,hr1,hr2,h3,h4,h5,h6⟩
  ·have hE:Hid (viewR ss nm=([],80)):=viewR_none HR.out.1 HR.out.2 (by
    unfold viewI
    rcases hx with hx | ⟨ps,hx,h⟩
    ·rw[hx]
    ·rw[hx]
     exact h)
   clear hx
   go_wp2_with fail
   go_ret2
   exact⟨by rw[hE.out];exact entOut_err 80 _ _,HC1.out.trans HC2.out⟩
  ·have hE:Hid (viewR ss nm=(zs.map (·.e),0)):=viewR_some HR.out.1 HR.out.2 (by
    unfold viewI
    rw[hx]
    exact hes)
   have HO:Hid (EntOut (zs.map (·.e)) 0 w.heap.size (.returned (.tuple #[.slice A' zs.length c',.int .i64 0])) w2):=⟨A',c',by rw[List.length_map],by rw[List.length_map];exact h5,h6,zs,rfl,h3,fun z hz=>(h4 z hz).mono HC1.out.size⟩
   obtain⟨Z,hZ⟩:∃Z,zs.length=Z:=⟨_,rfl⟩
   obtain⟨N,hN⟩:∃N,ps.length=N:=⟨_,rfl⟩
   rw[hZ] at HO
   rw[hZ,hN]
   clear hx hes hR hr1 hr2 h3 h4 h5 h6 hZ hN
   go_wp2_with fail
   go_ret2
   exact⟨by rw[hE.out];exact HO.out,HC1.out.trans HC2.out⟩
theorem join_app_len (K:Nat) (b:List Str):∀a:List Str,(∀x∈a,x.length≤K)→(Lib.join (a++b) [47]).length≤a.length * (K+1)+(Lib.join b [47]).length
 |[],_=>by simp
 |x :: a,h=>by
  have ih:=join_app_len K b a (fun y hy=>h y (by simp[hy]))
  have hx:=h x (by simp)
  rw[List.cons_append,List.length_cons,Nat.succ_mul]
  rcases hab:a++b with _ | ⟨y,t⟩
  ·rw[join47_one]
   omega
  ·rw[join47_cons,←hab]
   simp only[List.length_append,List.length_cons]
   omega
theorem fwd_len {r:Rule} {s t:Str} (hsm:SmallV r) (hs:s.length≤300) (h:fwd r s=some t):t.length≤8000:=by
 obtain⟨l,h0,hp,hm,ht,_⟩:=fwd_some h
 have tw:=ruleErr_twin.1 h0
 have h12:=patErr_len tw.rp
 obtain⟨h2,h3,h4⟩:=pathOf_some hp
 have hjl:(Lib.join l [47]).length≤300:=by
  rw[h4] at hs
  simp only[pathStr,List.length_cons] at hs
  omega
 have hea:∀x∈l,x.length≤300:=by
  have hh:l=slash (Lib.join l [47]):=(slash_join l (by rintro rfl;simp at h2) (fun x hx=>comp_no47 (List.all_eq_true.1 h3 x hx))).symm
  intro x hx
  rw[hh] at hx
  have:=slash_each _ x hx
  omega
 have hcs:=capsTo_each (p:=r.left) hea r.left.parts.length
 have hK:∀x∈fillR r.right.parts (capsTo r.left l r.left.parts.length),x.length≤550:=by
  intro y hy
  obtain⟨j,hj,e⟩:=List.mem_iff_getElem.1 hy
  have hjl:j < r.right.parts.length:=by rw[fillR_len] at hj;exact hj
  have h1:=fillR_get r.right.parts (capsTo r.left l r.left.parts.length) j _ (List.getElem?_eq_getElem hjl)
  rw[List.getElem?_eq_getElem hj,e] at h1
  simp only[Option.some.injEq] at h1
  have h2:=hsm.rs _ (List.getElem_mem hjl)
  rw[h1]
  split
  ·rw[List.length_append,List.length_tail]
   have h3:((capsTo r.left l r.left.parts.length).getD ((r.right.parts.take j).filter isStar).length []).length≤300:=by
    rw[List.getD_eq_getElem?_getD]
    rcases e:(capsTo r.left l r.left.parts.length)[((r.right.parts.take j).filter isStar).length]? with _ | y
    ·simp
    ·exact hcs y (List.mem_of_getElem? e)
   omega
  ·omega
 have hfl:=fillR_len r.right.parts (capsTo r.left l r.left.parts.length)
 have hrest:(Lib.join (if r.right.rest then l.drop r.left.parts.length else []) [47]).length≤300:=by
  split
  ·have:=join_drop_le r.left.parts.length l
   omega
  ·simp[Lib.join,List.intercalate]
 have hj:=join_app_len 550 (if r.right.rest then l.drop r.left.parts.length else []) _ hK
 rw[ht,pathStr,trL]
 simp only[List.length_cons]
 rw[hfl] at hj
 have:r.right.parts.length * (550+1)≤12 * 551:=Nat.mul_le_mul h12 (Nat.le_refl _)
 omega
def mainEn:Ent:=⟨⟨[mainN],true⟩,⟨[viewN],true⟩,[]⟩
theorem view_main:viewR mainS mainN=([mainEn],0):=by decide +kernel
theorem main_small:SmallSS mainS:=fun s hs x hx=>by
 rw[mainS,List.mem_singleton] at hs
 subst hs
 simp only[List.mem_singleton] at hx
 subst hx
 exact⟨by decide,by decide,by decide,by decide⟩
theorem mainEn_small:SmallV mainEn.rule:=⟨by decide,by decide,by decide,by decide⟩
theorem main_z:StrmsZ mainS:=fun s hs x hx=>by
 rw[mainS,List.mem_singleton] at hs
 subst hs
 simp only[List.mem_singleton] at hx
 subst hx
 exact⟨by unfold LetP;decide,by unfold LetP;decide⟩
def MainE (w:World) (A:Option Addr):Prop:=∃z:NewE,z.e=mainEn∧ReadX encE 5 w A [z]∧EntA w z
theorem MainE.calm {w w':World} {A:Option Addr} (h:MainE w A) (hc:Calm w w'):MainE w' A:=by
 obtain⟨z,h1,h2,h3⟩:=h
 exact⟨z,h1,h2.calm hc,h3.calm hc⟩
def MainN (w:World) (B:Nat) (A:Option Addr):Prop:=∃z:NewE,z.e=mainEn∧ReadX encE 5 w A [z]∧EntN w B z
theorem MainN.toE {w:World} {B:Nat} {A:Option Addr} (h:MainN w B A):MainE w A:=by
 obtain⟨z,h1,h2,h3⟩:=h
 exact⟨z,h1,h2,h3.toA⟩
theorem MainN.calm {w w':World} {B:Nat} {A:Option Addr} (h:MainN w B A) (hc:Calm w w'):MainN w' B A:=by
 obtain⟨z,h1,h2,h3⟩:=h
 exact⟨z,h1,h2.calm hc,h3.calm hc⟩
theorem MainN.mono {w:World} {B B':Nat} {A:Option Addr} (h:MainN w B A) (hB:B'≤B):MainN w B' A:=by
 obtain⟨z,h1,h2,h3⟩:=h
 exact⟨z,h1,h2,h3.mono hB⟩
theorem MainN.set5 {w:World} {B P:Nat} {A:Option Addr} {cs:Array Value} {T:TypeId} {q:Nat × Nat} (h:MainN w B A) (hP:w.heap[P]?=some (.cells cs T q)) (hcs:∀v∈cs.toList,v≠.bool true) (hB:P < B) (u0 u1 u2 u3 u4:Value):MainN (Go.Proofs.YtcofdlipapnohaaGreatDoor.set5 w P u0 u1 u2 u3 u4) B A:=by
 obtain⟨z,h1,h2,h3⟩:=h
 refine⟨z,h1,?_,h3.set5 hB u0 u1 u2 u3 u4⟩
 intro hne
 obtain⟨b,o,hA,hb,hk⟩:=h2 hne
 have hbP:b≠P:=fun e=>by
  subst e
  have h4:=hk 0 z rfl 1 _ rfl
  rw[cell_of_row _ b _ _ _ _ hP,h1] at h4
  exact hcs _ (Array.mem_toList_iff.2 (Array.mem_of_getElem? h4)) rfl
 have kS:Kp (fun i=>i=P) w (Go.Proofs.YtcofdlipapnohaaGreatDoor.set5 w P u0 u1 u2 u3 u4):=Kp.set5 (F:=fun i=>i=P) (Kp.refl _ w) (b:=P) (.inl rfl) u0 u1 u2 u3 u4
 exact⟨b,o,hA,Nat.lt_of_lt_of_le hb kS.size,fun k x hx i u hu=>kS.cell (hk k x hx i u hu) hbP⟩
theorem vwof_c (nm:Str) (SA:Option Addr) (sc:Nat) (w:World) (hs:StrmsU w SA mainS) :
  Calls Tryz.prog 94 #[.slice SA 1 sc,.agg #[.string (bs nm),.string ⟨#[109,97,105,110]⟩,.slice none 0 0]] w fun e w'=>(∃A c,e=.returned (.tuple #[.slice A 1 c,.int .i64 0])∧MainN w' w.heap.size A∧1≤c∧c≤9223372036854775807)∧Calm w w':=by
 have K:Hid (∀W,Calm w W→Calls Tryz.prog 63 #[.slice SA 1 sc,.string ⟨#[109,97,105,110]⟩] W fun e w'=>(∃A c,e=.returned (.tuple #[.slice A 1 c,.int .i64 0])∧MainN w' W.heap.size A∧1≤c∧c≤9223372036854775807)∧Calm W w'):=fun W hW=>by
  have:=View_c mainS mainN SA 1 sc W (hs.calm hW) rfl (by decide) main_small main_z
  refine this.mono ?_
  rintro e w' ⟨⟨A,c,he,h1,h2,zs,h3,h4,h5⟩,hc⟩
  rw[view_main] at he h1 h3
  obtain⟨z,rfl⟩:∃z,zs=[z]:=by
   have hl:zs.length=1:=by
    have:=congrArg List.length h3
    simpa using this
   exact List.length_eq_one_iff.1 hl
  refine⟨⟨A,c,he,⟨z,by simpa using h3,h4,h5 z (by simp)⟩,h1,h2⟩,hc⟩
 clear hs
 go_enter Tryz.func94,Tryz.ntmps94
 go_wp2_with fail
 refine (K.out _ ((Calm.refl w).alloc _)).mono ?_
 rintro e w2 ⟨⟨A,c,rfl,hE,h1,h2⟩,hc2⟩
 have HE:=Lib.hid (hE.mono (B':=w.heap.size) (by simp))
 have HC2:Hid (Calm w w2):=((Calm.refl w).alloc _).trans hc2
 clear hE hc2
 go_wp2_with fail
 go_ret2
 exact⟨⟨A,c,rfl,HE.out,h1,h2⟩,HC2.out⟩
theorem noHole_c (A:Option Addr) (c:Nat) (p:Str) (w:World):Calls Tryz.prog 137 #[.slice A 0 c,.string (bs p)] w fun e w'=>e=.returned (.bool false)∧Calm w w':=by
 have KI:∀(f:Value) (W:World),Calls Tryz.prog 217 #[.slice A 0 c,f] W fun e w'=>e=.returned (.int .i64 (-1))∧W=w':=fun f W=>by
  go_enter Tryz.func217,Tryz.ntmps217
  go_wp2_with fail
  go_loopw [8] (fun i wr=>i=.int .i64 0∧wr=W) (fun _ _=>0)
  case atStart=>exact⟨rfl,rfl⟩
  case round=>
   obtain⟨rfl,rfl⟩:=hrel
   go_wp2_with fail
   go_ret
   exact⟨rfl,rfl⟩
 have KC:∀(f:Value) (W:World),Calls Tryz.prog 181 #[.slice A 0 c,f] W fun e w'=>e=.returned (.bool false)∧W=w':=fun f W=>by
  have HK:=Lib.hid (KI f W)
  clear KI
  go_enter Tryz.func181,Tryz.ntmps181
  go_wp2_with fail
  refine HK.out.mono ?_
  rintro e w' ⟨rfl,rfl⟩
  go_wp2_with fail
  go_ret
  exact⟨rfl,rfl⟩
 have HK:=Lib.hid KC
 clear KI KC
 go_enter Tryz.func137,Tryz.ntmps137
 go_wp2_with fail
 refine (HK.out _ _).mono ?_
 rintro e w' ⟨rfl,rfl⟩
 go_wp2_with fail
 go_ret
 exact⟨rfl,(Calm.refl _).alloc _⟩
def mayS (p:Str):Bool:=match fwd mainEn.rule p with
 |none=>false
 |some t=>decide ((locE mainS mainN t).2.2=0) && (decide ((locE mainS mainN t).1=1) || decide ((locE mainS mainN t).1=2))
set_option maxRecDepth 100000 in
set_option maxHeartbeats 4000000 in
theorem may_c (p nm:Str) (SA WA:Option Addr) (sc wc:Nat) (w:World) (hs:StrmsU w SA mainS) (hE:MainE w WA) (hM:MaxL w) (hp:p.length≤300) :
  Calls Tryz.prog 100 #[.agg #[.slice SA 1 sc,.string (bs nm),.string ⟨#[109,97,105,110]⟩,.slice none 0 0,.slice WA 1 wc],.string (bs p)] w fun e w'=>e=.returned (.bool (mayS p))∧Calm w w':=by
 obtain⟨z,hz,hX,hA⟩:=hE
 obtain⟨b,o,rfl,hb,hk⟩:=hX (by simp)
 have HX:Hid (∀W,Calm w W→W.cell? ⟨b,o,none⟩=some (.slice z.LA 1 z.lc)∧W.cell? ⟨b,o+1,none⟩=some (.bool true)∧W.cell? ⟨b,o+2,none⟩=some (.slice z.RA 1 z.rc)∧W.cell? ⟨b,o+3,none⟩=some (.bool true)∧W.cell? ⟨b,o+4,none⟩=some (.slice z.HA 0 z.hc)∧b < W.heap.size):=fun W hW=>by
  have h0:=hW.at_ (hk 0 z rfl 0 _ rfl) hb
  have h1:=hW.at_ (hk 0 z rfl 1 _ rfl) hb
  have h2:=hW.at_ (hk 0 z rfl 2 _ rfl) hb
  have h3:=hW.at_ (hk 0 z rfl 3 _ rfl) hb
  have h4:=hW.at_ (hk 0 z rfl 4 _ rfl) hb
  rw[hz] at h0 h1 h2 h3 h4
  exact⟨h0,h1,h2,h3,h4,Nat.lt_of_lt_of_le hb hW.size⟩
 have KF:Hid (∀W,Calm w W→Calls Tryz.prog 136 #[.agg #[.bool false,.slice z.LA 1 z.lc,.bool true,.slice z.RA 1 z.rc,.bool true],.string (bs p)] W fun e w'=>e=.returned (fwdV mainEn.rule p)∧Calm W w'):=fun W hW=>by
  have hr:RuleU W z.pl mainEn.rule:=by
   have:=(hA.calm hW).rule
   rw[hz] at this
   exact this
  exact fwd_c mainEn.rule z.pl p W hr mainEn_small (by omega) (hM.calm hW)
 have KL:Hid (∀W t,Calm w W→t.length≤10000→Calls Tryz.prog 138 #[.slice SA 1 sc,.string ⟨#[109,97,105,110]⟩,.string (bs t)] W fun e w'=>e=.returned (.tuple #[.int .i64 (locE mainS mainN t).1,.string (bs (locE mainS mainN t).2.1),.int .i64 (locE mainS mainN t).2.2])∧Calm W w'):=fun W t hW ht=>
  locate_c mainS mainN t SA 1 sc W (hs.calm hW) rfl (by decide) ht main_small (hM.calm hW)
 obtain⟨R,hR⟩:∃R,mayS p=R:=⟨_,rfl⟩
 rw[hR]
 unfold mayS at hR
 rcases hf:fwd mainEn.rule p with _ | t
 ·rw[hf] at hR
  have hR0:R=false:=hR.symm
  subst hR0
  have hfv:fwdV mainEn.rule p=.tuple #[.string ⟨#[]⟩,.bool false]:=by unfold fwdV;rw[hf];rfl
  rw[hfv] at KF
  clear hR hf hfv hs hM hA hX hk hz
  go_enter Tryz.func100,Tryz.ntmps100
  go_wp2_with fail
  go_loopw [15] (fun q wr=>∃j:Nat,j≤1∧q=.int .i64 j∧Hid (Calm w wr)) (fun q _=>1 - (intOf q).toNat)
  case atStart=>exact⟨0,by decide,rfl,(Calm.refl _).alloc _⟩
  case round=>
   obtain⟨j,hj,rfl,HW⟩:=hrel
   by_cases h0:j=0
   ·subst h0
    obtain⟨a0,a1,a2,a3,a4,lb⟩:=HX.out wr HW.out
    go_wp2_with (go_at_call 136;refine (KF.out _ (HW.out.alloc _)).mono ?_;rintro e w5 ⟨rfl,hc5⟩)
    go_roundw
    case rel=>exact⟨1,Nat.le_refl _,by go_num,(HW.out.alloc _).trans hc5⟩
    case measure=>simp[intOf]
   ·obtain rfl:j=1:=by omega
    go_wp2_with fail
    go_ret
    exact⟨rfl,HW.out⟩
 ·rw[hf] at hR
  have hfv:fwdV mainEn.rule p=.tuple #[.string (bs t),.bool true]:=by unfold fwdV;rw[hf];rfl
  have htl:=fwd_len mainEn_small hp hf
  rw[hfv] at KF
  replace KL:Hid (∀W,Calm w W→Calls Tryz.prog 138 #[.slice SA 1 sc,.string ⟨#[109,97,105,110]⟩,.string (bs t)] W fun e w'=>e=.returned (.tuple #[.int .i64 (locE mainS mainN t).1,.string (bs (locE mainS mainN t).2.1),.int .i64 (locE mainS mainN t).2.2])∧Calm W w'):=fun W hW=>KL.out W t hW (by omega)
  obtain⟨⟨κ,u,er⟩,hlo⟩:∃y,locE mainS mainN t=y:=⟨_,rfl⟩
  rw[hlo] at KL
  have hR1:(decide (er=0) && (decide (κ=1) || decide (κ=2)))=R:=by
   have h1:=hR
   simp only at h1
   rw[hlo] at h1
   exact h1
  have HR1:=Lib.hid hR1
  clear hR hf hfv hs hM hA hX hk hz hlo htl hR1
  go_enter Tryz.func100,Tryz.ntmps100
  go_wp2_with fail
  go_loopw [15] (fun q wr=>q=.int .i64 0∧wr=(w.alloc (.cells #[.slice SA 1 sc,.string (bs nm),.string ⟨#[109,97,105,110]⟩,.slice none 0 0,.slice (some ⟨b,o,none⟩) 1 wc] 182))) (fun _ _=>0)
  case atStart=>exact⟨rfl,rfl⟩
  case round=>
   obtain⟨rfl,rfl⟩:=hrel
   obtain⟨w1,hw1⟩:∃w1,w1=w.alloc (.cells #[.slice SA 1 sc,.string (bs nm),.string ⟨#[109,97,105,110]⟩,.slice none 0 0,.slice (some ⟨b,o,none⟩) 1 wc] 182):=⟨_,rfl⟩
   obtain⟨P2,e2⟩:∃P2,w.heap.size=P2:=⟨_,rfl⟩
   have hz2:CellsB w1 P2 [.slice SA 1 sc,.string (bs nm),.string ⟨#[109,97,105,110]⟩,.slice none 0 0,.slice (some ⟨b,o,none⟩) 1 wc]:=by
    rw[hw1,←e2]
    exact CellsB.new w _ _
   have HW:Hid (Calm w w1):=by
    show Calm w w1
    rw[hw1]
    exact (Calm.refl _).alloc _
   obtain⟨a0,a1,a2,a3,a4,lb⟩:=HX.out w1 HW.out
   have HZ2:=Lib.hid hz2
   rw[←hw1,e2]
   clear hw1 e2 hz2
   have y0:=HZ2.out.at_ 0 _ rfl
   have y2:=HZ2.out.at_ 2 _ rfl
   go_wp2_with fail
   refine (KF.out _ (HW.out.alloc _)).mono ?_
   rintro e w5 ⟨rfl,hc5⟩
   obtain⟨P6,e6⟩:∃P6,w1.heap.size=P6:=⟨_,rfl⟩
   have hz6:=(CellsB.new w1 #[.slice z.LA 1 z.lc,.bool true,.slice z.RA 1 z.rc,.bool true,.slice z.HA 0 z.hc] 218).calm hc5
   rw[e6] at hz6 ⊢
   have HC5:Hid (Calm w w5):=(HW.out.alloc _).trans hc5
   have hz25:=HZ2.out.calm (((Calm.refl w1).alloc _).trans hc5)
   have q4:=hz6.at_ 4 _ rfl
   have HZ25:=Lib.hid hz25
   clear hz6 hc5 y0 y2 e6 a0 a1 a2 a3 a4 lb hz25
   go_wp2_with fail
   refine (noHole_c z.HA z.hc p _).mono ?_
   rintro e w6 ⟨rfl,hc6⟩
   have HC6:Hid (Calm w w6):=HC5.out.trans hc6
   have y0:=(HZ25.out.calm hc6).at_ 0 _ rfl
   have y2:=(HZ25.out.calm hc6).at_ 2 _ rfl
   clear hc6 q4
   go_wp2_with fail
   refine (KL.out _ HC6.out).mono ?_
   rintro e w7 ⟨rfl,hc7⟩
   have HC7:Hid (Calm w w7):=HC6.out.trans hc7
   clear hc7 y0 y2
   by_cases her:er=0
   ·subst her
    by_cases h1:κ=1
    ·subst h1
     have hRv:Hid (true=R):=HR1.out
     go_wp2_with fail
     go_ret
     exact⟨ret_bool hRv.out,HC7.out⟩
    ·have h1':(κ == 1)=false:=by simpa using h1
     by_cases h2:κ=2
     ·subst h2
      have hRv:Hid (true=R):=HR1.out
      go_wp2_with fail
      go_ret
      exact⟨ret_bool hRv.out,HC7.out⟩
     ·have h2':(κ == 2)=false:=by simpa using h2
      have hRv:Hid (false=R):=by
       show _=_
       rw[←HR1.out,decide_eq_false h1,decide_eq_false h2]
       rfl
      go_wp2_with fail
      go_ret
      exact⟨ret_bool hRv.out,HC7.out⟩
   ·have her':(er == 0)=false:=by simpa using her
    have hRv:Hid (false=R):=by
     show _=_
     rw[←HR1.out,decide_eq_false her]
     rfl
    go_wp2_with fail
    go_ret
    exact⟨ret_bool hRv.out,HC7.out⟩
end Go.Proofs.YtcofdlipapnohaaGreatDoor
