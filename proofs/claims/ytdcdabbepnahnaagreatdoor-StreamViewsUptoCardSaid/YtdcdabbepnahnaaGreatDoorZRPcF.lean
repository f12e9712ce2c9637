/- Facts for the walk of the reference's Pieces: the own piece, the narrowed one. -/
import Derived.Deep.RegionHeld3
import Derived.Test.YtdcdabbepnahnaaGreatDoorZPcM
import Derived.Test.YtdcdabbepnahnaaGreatDoorZColE
import Derived.Test.YtdcdabbepnahnaaGreatDoorZPcsI
import Derived.Test.YtdcdabbepnahnaaGreatDoorZFixW
import Derived.Test.YtdcdabbepnahnaaGreatDoorZBindW
set_option linter.unusedVariables false
set_option linter.unusedSimpArgs false
namespace Go.Proofs.YtdcdabbepnahnaaGreatDoor.Sy
def ownR (name:Str) (x:Line):Rule:=if x.kind=3 then x.rule else ⟨false,x.path,storedP x.path name⟩
def rkind (x:Line) (p:Pc):Int:=if p.kind=3 then 3 else if x.kind=1 then p.kind else x.kind
def rwide (name:Str) (x:Line) (p:Pc):Rule:=if p.kind=3 then p.line else ownR name x
def rnar (name:Str) (x:Line) (p:Pc) (g:Reg):Option Pc:=if (narL (rwide name x p) g.b).2≠0 then none else some ⟨g,rkind x p,((narL (rwide name x p) g.b).1).getD zeroR⟩
def rstepPs (name:Str) (own:Reg) (x:Line):List Pc→Option (List Pc)
 |[]=>some []
 |p :: ps=>if (meetR own p.region).2≠0 then none else match (meetR own p.region).1 with
  |none=>rstepPs name own x ps
  |some g=>match rnar name x p g with
   |none=>none
   |some q=>(rstepPs name own x ps).map (q :: ·)
def rlinesPs (name:Str) (up:List Pc):List Line→Option (List Pc)
 |[]=>some []
 |x :: r=>if x.kind=4 then rlinesPs name up r else match rstepPs name (ownG x r) x up with
  |none=>none
  |some a=>(rlinesPs name up r).map (a++·)
def rmainPs (name:Str):List Line→List Pc
 |[]=>[]
 |x :: r=>if x.kind=4 then rmainPs name r else if gLen (ownG x r)=0 then rmainPs name r else ⟨ownG x r,x.kind,ownR name x⟩ :: rmainPs name r
def capN (o:Option (List Pc)):Option (List Pc):=match o with
 |none=>none
 |some l=>if l.length≤32 then some l else none
def rpcsL (ss:List Strm):List Nat→Option (List Pc)
 |[]=>none
 |[i]=>capN (some (rmainPs (strm ss i).name (strm ss i).paths))
 |i :: r=>match rpcsL ss r with
  |none=>none
  |some up=>capN (rlinesPs (strm ss i).name up (strm ss i).paths)
def rpcs (ss:List Strm) (i:Nat):Option (List Pc):=rpcsL ss (i :: above ss i)
/-! ### the same line -/
theorem stored_carry {b m:Pat} (hb:patErr b=0) (hv:b.parts.getD 0 []=viewN) {n:Str} (hn:comp n=true) (hi:insideP m b=true) (hm:patErr m=0):carryP b (storedP b n) m=storedP m n:=by
 obtain⟨t,ht⟩:=head_cons hv
 obtain⟨t',ht'⟩:=head_cons (head_in hv hi)
 have hin:Inner b (storedP b n) m:=⟨stored_twin hb hv hn,hm,hi⟩
 have e:storedP b n=⟨n :: t,b.rest⟩:=by
  unfold storedP
  rw[ht]
  rfl
 have e':storedP m n=⟨n :: t',m.rest⟩:=by
  unfold storedP
  rw[ht']
  rfl
 have hmr:=hin.mr
 have hle:=hin.le
 have hr:(carryP b (storedP b n) m).rest=m.rest:=hin.crest
 have hp:(carryP b (storedP b n) m).parts=n :: t':=by
  rw[hin.parts,e,ht,ht']
  rw[ht,ht'] at hmr hle
  unfold mR at hmr
  rw[Bool.and_eq_true] at hmr
  have hs:isStar viewN=false:=rfl
  simp only[capsR,hs,Bool.false_eq_true,if_false,fillR,comp_noStar hn,List.length_cons,List.drop_succ_cons,List.cons_append]
  rw[fill_caps _ _ hmr.2]
  congr 1
  cases hrest:b.rest with
  |true=>simp only[if_true];exact List.take_append_drop _ _
  |false=>
   simp only[Bool.false_eq_true,if_false,List.append_nil]
   refine List.take_of_length_le ?_
   have:=(hin.norest (by rw[e];exact hrest)).2
   rw[ht,ht'] at this
   simp at this
   omega
 rcases hc:carryP b (storedP b n) m with⟨a,re⟩
 rw[hc] at hr hp
 rw[e']
 simp only at hr hp
 rw[hr,hp]
theorem narL_stored {b m:Pat} (hb:patErr b=0) (hv:b.parts.getD 0 []=viewN) {n:Str} (hn:comp n=true) (hi:insideP m b=true) (hm:patErr m=0):narL ⟨false,b,storedP b n⟩ m=(some ⟨false,m,storedP m n⟩,0):=by
 have hin:Inner b (storedP b n) m:=⟨stored_twin hb hv hn,hm,hi⟩
 rw[narL_at (r:=⟨false,b,storedP b n⟩) hin]
 have e:=stored_carry hb hv hn hi hm
 show (if 12 < (carryP b (storedP b n) m).parts.length then _ else _)=_
 rw[e,if_neg (by
  have h12:=(patErr_iff.1 (stored_twin hm (head_in hv hi) hn).rp).2.2.1
  omega)]
theorem rkind_eq {x:Line} {p:Pc} (hx:lineOk x=true) (h4:x.kind≠4) (hp:p.kind=1∨p.kind=2∨p.kind=3):rkind x p=kindP x p:=by
 unfold rkind kindP ownK
 by_cases k3:p.kind=3
 ·rw[if_pos k3,if_pos k3]
 ·rw[if_neg k3,if_neg k3]
  by_cases x3:x.kind=3
  ·rw[if_pos x3,if_neg (by rw[x3];decide),x3]
  ·rw[if_neg x3]
   rcases lineOk_other hx x3 with h | h | h
   ·rw[if_pos h]
    rcases hp with hp | hp | hp
    ·rw[hp,if_pos ⟨h,rfl⟩]
    ·rw[hp,if_neg (fun h=>absurd h.2 (by decide))]
    ·exact absurd hp k3
   ·rw[if_neg (by rw[h];decide),if_neg (fun h2=>by rw[h] at h2;exact absurd h2.1 (by decide)),h]
   ·exact absurd h h4
theorem rnar_eq {name:Str} {x:Line} {r:List Line} {p:Pc} {g:Reg} (hn:comp name=true) (hx:lineOk x=true) (h4:x.kind≠4) (hp:PcUp p) (hg:(meetR (ownG x r) p.region).1=some g):rnar name x p g=narP name x p g:=by
 obtain⟨h1,h2,h3,h5,h6,m,hm,rfl⟩:=meetR_some hg
 obtain⟨hxp,hxv⟩:=lineOk_path hx
 obtain⟨m1,m2,m3,m4⟩:=meetP_some hm
 have hin:=meetL_in (allOk_of m1) (allOk_of m2) m3
 have hb:(meetG m (ownG x r) p.region).b=m:=rfl
 unfold rnar narP
 rw[rkind_eq hx h4 hp.k]
 have e:narL (rwide name x p) (meetG m (ownG x r) p.region).b=narL (wideP name x p (meetG m (ownG x r) p.region)) (meetG m (ownG x r) p.region).b:=by
  unfold rwide wideP ownR
  by_cases k3:p.kind=3
  ·rw[if_pos k3,if_pos k3]
  ·rw[if_neg k3,if_neg k3]
   by_cases x3:x.kind=3
   ·rw[if_pos x3,if_pos x3]
   ·rw[if_neg x3,if_neg x3,hb,narL_stored hxp hxv hn hin.1 m4,narL_stored m4 (head_in hxv hin.1) hn (insideP_refl (allOk_of m4)) m4]
 rw[e]
theorem rstep_eq {name:Str} {x:Line} {r:List Line} (hn:comp name=true) (hx:lineOk x=true) (h4:x.kind≠4):∀(ups acc:List Pc),(∀p∈ups,PcUp p)→acc.length≤32→stepPs name (ownG x r) x ups acc=capN ((rstepPs name (ownG x r) x ups).map (acc++·))
 |[],acc,_,ha=>by
  unfold stepPs rstepPs capN
  simp[ha]
 |p :: ps,acc,hu,ha=>by
  have hup:∀p∈ps,PcUp p:=fun p hp=>hu p (List.mem_cons_of_mem _ hp)
  unfold stepPs rstepPs
  by_cases h0:(meetR (ownG x r) p.region).2≠0
  ·rw[if_pos h0,if_pos h0]
   rfl
  ·rw[if_neg h0,if_neg h0]
   rcases hm:(meetR (ownG x r) p.region).1 with _ | g
   ·exact rstep_eq hn hx h4 ps acc hup ha
   ·simp only
    rw[rnar_eq hn hx h4 (hu p List.mem_cons_self) hm]
    rcases hq:narP name x p g with _ | q
    ·rfl
    ·simp only
     by_cases h32:acc.length=32
     ·rw[if_pos h32]
      rcases hrs:rstepPs name (ownG x r) x ps with _ | l
      ·rfl
      ·show none=capN (some (acc++(q :: l)))
       unfold capN
       simp only
       rw[if_neg (by rw[List.length_append,List.length_cons];omega)]
     ·rw[if_neg h32,rstep_eq hn hx h4 ps (acc++[q]) hup (by rw[List.length_append,List.length_cons,List.length_nil];omega)]
      rcases hrs:rstepPs name (ownG x r) x ps with _ | l
      ·rfl
      ·simp
theorem capN_some {o:Option (List Pc)} {l:List Pc} (h:capN o=some l):o=some l∧l.length≤32:=by
 unfold capN at h
 rcases o with _ | l'
 ·cases h
 ·simp only at h
  by_cases hl:l'.length≤32
  ·rw[if_pos hl] at h
   obtain rfl:=Option.some.inj h
   exact⟨rfl,hl⟩
  ·rw[if_neg hl] at h
   cases h
theorem rlines_eq {name:Str} {up:List Pc} (hn:comp name=true) (hu:∀p∈up,PcUp p):∀(ls:List Line) (acc:List Pc),(∀x∈ls,lineOk x=true)→acc.length≤32→linesPs name up ls acc=capN ((rlinesPs name up ls).map (acc++·))
 |[],acc,_,ha=>by
  unfold linesPs rlinesPs capN
  simp[ha]
 |x :: r,acc,hl,ha=>by
  have hr:∀y∈r,lineOk y=true:=fun y hy=>hl y (List.mem_cons_of_mem _ hy)
  unfold linesPs rlinesPs
  by_cases h4:x.kind=4
  ·rw[if_pos h4,if_pos h4]
   exact rlines_eq hn hu r acc hr ha
  ·rw[if_neg h4,if_neg h4,rstep_eq hn (hl x List.mem_cons_self) h4 up acc hu ha]
   rcases hs:rstepPs name (ownG x r) x up with _ | a
   ·rfl
   ·simp only[Option.map_some]
    rcases hc:capN (some (acc++a)) with _ | acc'
    ·simp only
     rcases hrl:rlinesPs name up r with _ | l
     ·rfl
     ·show none=capN (some (acc++(a++l)))
      unfold capN at hc ⊢
      simp only at hc ⊢
      rw[if_neg]
      intro h
      rw[if_pos (by rw[List.length_append] at h ⊢;rw[List.length_append] at h;omega)] at hc
      cases hc
    ·obtain⟨h1,h2⟩:=capN_some hc
     obtain rfl:=Option.some.inj h1
     simp only
     rw[rlines_eq hn hu r (acc++a) hr h2]
     rcases hrl:rlinesPs name up r with _ | l
     ·rfl
     ·simp
theorem all_meet {x:Line} {r:List Line} (hx:lineOk x=true) (hr:r.length≤64):meetR (ownG x r) allG=if gLen (ownG x r)=0 then (none,0) else (some (ownG x r),0):=by
 obtain⟨hxp,hxv⟩:=lineOk_path hx
 obtain⟨t,ht⟩:=head_cons hxv
 have hg:=ownG_good (r:=r) hxp hr
 have hin:insideP x.path allG.b=true:=by
  refine insideP_of ?_ ?_
  ·obtain⟨h0,h1,_⟩:=patErr_iff.1 hxp
   unfold lenIn allG
   simp only[if_true]
   cases hre:x.path.rest with
   |true=>simp;omega
   |false=>
    have:=h1 hre
    simp
    omega
  ·rw[ht]
   show (inside viewN viewN && inR [] t)=true
   rw[inside_refl]
   rfl
 have hm:meetP (ownG x r).b allG.b=some x.path:=by
  rw[meetP_comm]
  exact meetP_inside (by decide) hxp hin
 have he:meetG x.path (ownG x r) allG=ownG x r:=by
  show (⟨x.path,redL x.path (redL x.path (r.map (·.path))++[])⟩:Reg)=⟨x.path,redL x.path (r.map (·.path))⟩
  rw[List.append_nil,redL_idem hxp]
 unfold meetR
 rw[bothErr_of hg (by decide),if_neg (by simp),hm]
 simp only
 rw[he,if_neg (by have:=(gErr_zero hg).2.2;omega)]
theorem main_eq {name:Str} (hn:comp name=true):∀(ls:List Line),(∀x∈ls,lineOk x=true)→ls.length≤64→rlinesPs name rootPs ls=some (rmainPs name ls)
 |[],_,_=>rfl
 |x :: r,hl,hlen=>by
  have hx:=hl x List.mem_cons_self
  have hr:∀y∈r,lineOk y=true:=fun y hy=>hl y (List.mem_cons_of_mem _ hy)
  have hlr:r.length≤64:=by rw[List.length_cons] at hlen;omega
  obtain⟨hxp,hxv⟩:=lineOk_path hx
  unfold rlinesPs rmainPs
  by_cases h4:x.kind=4
  ·rw[if_pos h4,if_pos h4]
   exact main_eq hn r hr hlr
  ·rw[if_neg h4,if_neg h4]
   have e:rstepPs name (ownG x r) x rootPs=some (if gLen (ownG x r)=0 then [] else [⟨ownG x r,x.kind,ownR name x⟩]):=by
    unfold rootPs rstepPs
    simp only
    rw[all_meet hx hlr]
    by_cases h0:gLen (ownG x r)=0
    ·rw[if_pos h0,if_pos h0]
     simp[rstepPs]
    ·rw[if_neg h0,if_neg h0]
     simp only[ne_eq,not_true_eq_false,if_false]
     have hk:rkind x ⟨allG,1,zeroR⟩=x.kind:=by
      unfold rkind
      rw[if_neg (show ¬(1:Int)=3 by decide)]
      by_cases h1:x.kind=1
      ·rw[if_pos h1,h1]
      ·rw[if_neg h1]
     have hw:rwide name x ⟨allG,1,zeroR⟩=ownR name x:=by
      unfold rwide
      rw[if_neg (show ¬(1:Int)=3 by decide)]
     have hnar:narL (ownR name x) (ownG x r).b=(some (ownR name x),0):=by
      unfold ownR
      by_cases x3:x.kind=3
      ·rw[if_pos x3]
       have tw:Twin x.rule.left x.rule.right:=ruleErr_twin.1 (lineOk_import hx x3).1
       have hin:=inner_self tw
       show narL x.rule x.rule.left=_
       rw[narL_at hin,carry_self tw,if_neg (by have:=(patErr_iff.1 tw.rp).2.2.1;omega)]
       rfl
      ·rw[if_neg x3]
       exact narL_stored hxp hxv hn (insideP_refl (allOk_of hxp)) hxp
     unfold rnar
     rw[hw,hnar,hk]
     simp[rstepPs]
   rw[e]
   simp only
   rw[main_eq hn r hr hlr]
   by_cases h0:gLen (ownG x r)=0
   ·rw[if_pos h0,if_pos h0]
    rfl
   ·rw[if_neg h0,if_neg h0]
    rfl
theorem rpcs_eq {ss:List Strm} (h:Good ss):∀i,i < ss.length→rpcs ss i=pcs ss i:=by
 refine h.above_ind (P:=fun i=>rpcs ss i=pcs ss i) (fun i hi hp=>?_) (fun i p hi hp ih=>?_)
 ·obtain⟨hn,_,_,_,_,h12⟩:=ownErr_zero (h.own i hi)
  unfold rpcs pcs
  rw[h.none hp]
  show capN (some (rmainPs (strm ss i).name (strm ss i).paths))=linesPs (strm ss i).name rootPs (strm ss i).paths []
  rw[rlines_eq hn root_up _ [] (h.lines hi) (by simp),main_eq hn _ (h.lines hi) (by omega)]
  simp
 ·obtain⟨hn,_,_,_,_,h12⟩:=ownErr_zero (h.own i hi)
  unfold rpcs pcs at ih ⊢
  rw[h.some hp]
  show (match rpcsL ss (p :: above ss p) with
   |none=>none
   |some up=>capN (rlinesPs (strm ss i).name up (strm ss i).paths))=match pcsL ss (p :: above ss p) with
   |none=>none
   |some up=>linesPs (strm ss i).name up (strm ss i).paths []
  rw[ih]
  rcases hup:pcsL ss (p :: above ss p) with _ | up
  ·rfl
  ·simp only
   have hm:=pcs_mean h p (parentI_lt hp) up (by unfold pcs;exact hup)
   rw[rlines_eq hn (fun q hq=>(hm.ok q hq).up) _ [] (h.lines hi) (by simp)]
   rcases rlinesPs (strm ss i).name up (strm ss i).paths with _ | l
   ·rfl
   ·simp
end Go.Proofs.YtdcdabbepnahnaaGreatDoor.Sy
namespace Go.Proofs.YtdcdabbepnahnaaGreatDoor
open Go Go.RowKit Sy
def Fresh (w:World) (v v':Value):Prop:=v'.ownBlock=v.ownBlock∨∃g,v'.ownBlock=some g∧w.heap.size≤g
section
variable {α:Type} {enc:α→List Value} {K:Nat} {T:TypeId}
theorem append_fresh {P:Program} {w w0 w':World} {S ty:TypeId} {i0:TypeInfo} {z:Value} {bytes:Nat} (ht:P.underlying S=some (.slice T)) (hi:P.info? T=some i0) (hz:i0.zero=some z) (hsize:i0.size=K) (hby:i0.bytes=bytes) (hzs:z.cells.size=K) (hK:0 < K)
  (hlen:∀x,(enc x).length=K) (h1:∀x,∀u∈enc x,u.oneCell'=true) {v v':Value} {l m:List α} {A:Option Addr} {n c:Nat} (hown:OwnX enc K T w0 w v l) (hm:m.length=n)
  (hrd:ReadX enc K w A m) (hl:l.length+n≤2000000) (hb:bytes≤1000) (hr:(Builtin.append_ #[S,S] ty #[v,.slice A n c]).run P w=.ok v' w'):Fresh w v v':=by
 cases A with
 |none=>
  have h0:m=[]:=Classical.byContradiction fun hne=>by
   obtain⟨b,o,hA,_⟩:=hrd hne
   cases hA
  subst h0
  obtain rfl:0=n:=by simpa using hm
  rcases hown.own.2 with⟨rfl,h1⟩ | ⟨g,cap,cur,rfl,_,_,hnc,_⟩
  ·simp[Builtin.append_,run_underlying ht,sizeOf,typeInfo,hi,Builtin.lenOf,Builtin.firstCells] at hr
   exact .inl (by rw[←hr.1])
  ·simp[Builtin.append_,run_underlying ht,sizeOf,typeInfo,hi,Builtin.lenOf,Builtin.firstCells,hnc,storeCells] at hr
   exact .inl (by rw[←hr.1])
 |some ad=>
  have hnews:∀(j:Nat) (u:Value),(encs enc m)[j]?=some u→w.cell? (ad.add j)=some u:=fun j u hj=>by
   obtain⟨k,x,i,h2,rfl,h3⟩:=encs_cells hlen m j u hj
   obtain⟨b,o,hA,_,hk⟩:=hrd (fun e=>by rw[e] at h2;simp at h2)
   obtain rfl:=Option.some.inj hA
   simpa[Addr.add_lit,Nat.add_assoc] using hk k x h2 i u h3
  have h2:∀u∈encs enc m,u.oneCell'=true:=fun u hu=>by
   obtain⟨x,_,hx⟩:=List.mem_flatMap.1 hu
   exact h1 x u hx
  have hnl:(encs enc m).length=n * i0.size:=by rw[hsize,encs_len hlen,hm]
  subst hsize
  subst hby
  rcases hown.own.2 with⟨rfl,h0⟩ | ⟨g,cap,cur,rfl,hbg,hg,hnc,hcm,hcs,htake⟩
  ·rw[h0] at hl
   by_cases hn:n=0
   ·subst hn
    have he:encs enc m=[]:=List.eq_nil_of_length_eq_zero (by simpa using hnl)
    simp[Builtin.append_,run_underlying ht,sizeOf,typeInfo,hi,Builtin.lenOf,Builtin.firstCells,loadCells,loadCellsFrom] at hr
    exact .inl (by rw[←hr.1])
   ·have h48:n * i0.bytes≤281474976710656:=Nat.le_trans (Nat.mul_le_mul (show n≤2000000 by omega) hb) (by decide)
    rw[run_append_nil (P:=P) w S ty T i0 z ht hi hz ad n c (encs enc m) hnl hnews (by omega) (by omega) h48] at hr
    simp only[Result.ok.injEq] at hr
    obtain⟨rfl,_⟩:=hr
    exact .inr ⟨_,rfl,Nat.le_refl _⟩
  ·by_cases hroom:l.length+n≤cap
   ·have hfit:l.length * i0.size+(encs enc m).length≤cur.size:=by rw[hnl,hcs,←Nat.add_mul];exact Nat.mul_le_mul_right _ hroom
    rw[run_append_room (P:=P) w S ty T i0 ht hi g l.length cap cur hg ad n c (encs enc m) hnl hnews h2 hroom hfit] at hr
    simp only[Result.ok.injEq] at hr
    obtain⟨rfl,_⟩:=hr
    exact .inl rfl
   ·have holds:∀j u,(encs enc l)[j]?=some u→w.cell? ((⟨g,0,none⟩:Addr).add j)=some u:=hown.own.cells (g:=g) rfl
    rw[run_append_grow (P:=P) w S ty T i0 z ht hi hz ⟨g,0,none⟩ l.length cap (encs enc l) hown.own.1 holds ad n c (encs enc m) hnl hnews (by omega) (by omega) (growslice_fits (by omega) (Nat.le_trans (Nat.mul_le_mul (show l.length+n≤2000000 by omega) hb) (by decide)))] at hr
    simp only[Result.ok.injEq] at hr
    obtain⟨rfl,_⟩:=hr
    exact .inr ⟨_,rfl,Nat.le_refl _⟩
end
def rcontP (nm:Str) (up:List Pc) (own:Reg) (x:Line) (rest:List Line) (ups acc:List Pc):Option (List Pc):=match rstepPs nm own x ups with
 |none=>none
 |some a=>(rlinesPs nm up rest).map fun l=>acc++(a++l)
theorem rcont_nil {nm:Str} {up:List Pc} {own:Reg} {x:Line} {rest:List Line} {acc:List Pc}:rcontP nm up own x rest [] acc=(rlinesPs nm up rest).map (acc++·):=rfl
theorem rcont_fail {nm:Str} {up:List Pc} {own:Reg} {x:Line} {rest:List Line} {p:Pc} {ups acc:List Pc} (h:(meetR own p.region).2≠0):rcontP nm up own x rest (p :: ups) acc=none:=by
 unfold rcontP rstepPs
 rw[if_pos h]
theorem rcont_skip {nm:Str} {up:List Pc} {own:Reg} {x:Line} {rest:List Line} {p:Pc} {ups acc:List Pc} (h:(meetR own p.region).2=0) (h1:(meetR own p.region).1=none):rcontP nm up own x rest (p :: ups) acc=rcontP nm up own x rest ups acc:=by
 unfold rcontP
 conv=>lhs;unfold rstepPs
 rw[if_neg (by simpa using h),h1]
theorem rcont_stop {nm:Str} {up:List Pc} {own:Reg} {x:Line} {rest:List Line} {p:Pc} {ups acc:List Pc} {g:Reg} (h:(meetR own p.region).2=0) (h1:(meetR own p.region).1=some g) (h2:rnar nm x p g=none):rcontP nm up own x rest (p :: ups) acc=none:=by
 unfold rcontP
 conv=>lhs;unfold rstepPs
 rw[if_neg (by simpa using h),h1]
 simp only[h2]
theorem rcont_add {nm:Str} {up:List Pc} {own:Reg} {x:Line} {rest:List Line} {p q:Pc} {ups acc:List Pc} {g:Reg} (h:(meetR own p.region).2=0) (h1:(meetR own p.region).1=some g) (h2:rnar nm x p g=some q):rcontP nm up own x rest (p :: ups) acc=rcontP nm up own x rest ups (acc++[q]):=by
 unfold rcontP
 conv=>lhs;unfold rstepPs
 rw[if_neg (by simpa using h),h1]
 simp only[h2]
 rcases rstepPs nm own x ups with _ | a
 ·rfl
 ·simp only[Option.map_some]
  rcases rlinesPs nm up rest with _ | l
  ·rfl
  ·simp
def rrest (mn:Bool) (nm:Str) (up:List Pc) (ls:List Line) (acc:List Pc):Option (List Pc):=if mn then some (acc++rmainPs nm ls) else (rlinesPs nm up ls).map (acc++·)
theorem rrest_nil {mn:Bool} {nm:Str} {up acc:List Pc}:rrest mn nm up [] acc=some acc:=by
 cases mn <;> simp[rrest,rmainPs,rlinesPs]
theorem rrest_excl {mn:Bool} {nm:Str} {up acc:List Pc} {x:Line} {r:List Line} (h:x.kind=4):rrest mn nm up (x :: r) acc=rrest mn nm up r acc:=by
 cases mn
 ·simp only[rrest,Bool.false_eq_true,if_false]
  conv=>lhs;unfold rlinesPs
  rw[if_pos h]
 ·simp only[rrest,if_true]
  conv=>lhs;unfold rmainPs
  rw[if_pos h]
theorem rrest_go {nm:Str} {up acc:List Pc} {x:Line} {r:List Line} (h:x.kind≠4):rrest false nm up (x :: r) acc=rcontP nm up (ownG x r) x r up acc:=by
 simp only[rrest,Bool.false_eq_true,if_false]
 conv=>lhs;unfold rlinesPs
 rw[if_neg h]
 unfold rcontP
 rcases rstepPs nm (ownG x r) x up with _ | a
 ·rfl
 ·simp only
  rcases rlinesPs nm up r with _ | l
  ·rfl
  ·rfl
theorem rrest_void {nm:Str} {up acc:List Pc} {x:Line} {r:List Line} (h:x.kind≠4) (h0:gLen (ownG x r)=0):rrest true nm up (x :: r) acc=rrest true nm up r acc:=by
 simp only[rrest,if_true]
 conv=>lhs;unfold rmainPs
 rw[if_neg h,if_pos h0]
theorem rrest_main {nm:Str} {up acc:List Pc} {x:Line} {r:List Line} (h:x.kind≠4) (h0:gLen (ownG x r)≠0):rrest true nm up (x :: r) acc=rrest true nm up r (acc++[⟨ownG x r,x.kind,ownR nm x⟩]):=by
 simp only[rrest,if_true]
 conv=>lhs;unfold rmainPs
 rw[if_neg h,if_neg h0]
 simp
def rwhole (mn:Bool) (nm:Str) (up:Option (List Pc)) (ls:List Line):Option (List Pc):=match up with
 |none=>none
 |some u=>capN (rrest mn nm u ls [])
def RpEnd (x:Option (List Pc)) (e:Ending) (w':World):Prop:=
 (x=none∧∃v,e=.returned (.tuple #[v,.bool false])) ∨
 (∃ps A c,x=some ps∧e=.returned (.tuple #[.slice A ps.length c,.bool true])∧PcsR w' A ps∧ps.length≤c∧c≤9223372036854775807)
def StrO (w0 w:World) (A:Option Addr) (c:Nat) (ls:List Str):Prop:=StrsU w0 A ls∨NewS w w0.heap.size A c ls
theorem StrO.u {w0 w:World} {A:Option Addr} {c:Nat} {ls:List Str} (h:StrO w0 w A c ls) (hc:Calm w0 w):StrsU w A ls:=h.elim (fun h=>h.calm hc) (fun h=>h.u)
theorem StrO.calm {w0 w w':World} {A:Option Addr} {c:Nat} {ls:List Str} (h:StrO w0 w A c ls) (hc:Calm w w'):StrO w0 w' A c ls:=h.imp id (fun h=>h.calm hc)
theorem StrO.own {w0 w w':World} {A:Option Addr} {c:Nat} {ls:List Str} (h:StrO w0 w A c ls) {B0 n K:Nat} {v:Value} {T:TypeId} {xs:List Value} (hS:9≠T) (hown:w.ownsRow B0 T K v n xs) (hg:w.grownBy w' v.ownBlock):StrO w0 w' A c ls:=h.imp id (fun h=>h.grown hS hown hg)
structure PcO (w0 w:World) (x:NewC):Prop where
 b:StrO w0 w x.A x.c x.p.region.b.parts
 h:PatsN w w0.heap.size x.HA x.hc x.p.region.hs
 l:StrO w0 w x.a.AL x.a.cl x.p.line.left.parts
 r:StrO w0 w x.a.AR x.a.cr x.p.line.right.parts
 br:x.p.region.b.parts.length≤x.c∧x.c≤9223372036854775807
 lr:x.p.line.left.parts.length≤x.a.cl∧x.a.cl≤9223372036854775807
 rr:x.p.line.right.parts.length≤x.a.cr∧x.a.cr≤9223372036854775807
 few:x.p.region.b.parts.length≤16384
 each:∀l∈x.p.region.b.parts,l.length≤16384
 hl:x.p.region.hs.length≤16384
theorem PcO.calm {w0 w w':World} {x:NewC} (h:PcO w0 w x) (hc:Calm w w'):PcO w0 w' x:=⟨h.b.calm hc,h.h.calm hc,h.l.calm hc,h.r.calm hc,h.br,h.lr,h.rr,h.few,h.each,h.hl⟩
theorem PcO.own {w0 w w':World} {x:NewC} (h:PcO w0 w x) {B0 n K:Nat} {v:Value} {T:TypeId} {xs:List Value} (hT:51≠T) (hS:9≠T) (hown:w.ownsRow B0 T K v n xs) (hg:w.grownBy w' v.ownBlock):PcO w0 w' x:=
 ⟨h.b.own hS hown hg,h.h.own hT hS hown hg,h.l.own hS hown hg,h.r.own hS hown hg,h.br,h.lr,h.rr,h.few,h.each,h.hl⟩
theorem PcO.a {w0 w:World} {x:NewC} (h:PcO w0 w x) (hc:Calm w0 w):PcA w x:=⟨⟨(h.b.u hc).toR h.few h.each,h.br.1,h.br.2,h.h.reads h.hl⟩,h.h.room,h.h.cap,⟨h.l.u hc,h.r.u hc,h.lr.1,h.rr.1,h.lr.2,h.rr.2⟩⟩
structure RpI (w0 wr:World) (v:Value) (zs:List NewC) (L:Nat):Prop where
 own:OwnX encC 9 71 w0 wr v zs
 each:∀z∈zs,PcO w0 wr z
 few:zs.length≤L
theorem RpI.nil {w0:World} {L:Nat}:RpI w0 w0 (.slice none 0 0) [] L:=⟨OwnX.nil (Calm.refl _),(fun z hz=>by cases hz),Nat.zero_le _⟩
theorem RpI.calm {w0 wr w2:World} {v:Value} {zs:List NewC} {L:Nat} (h:RpI w0 wr v zs L) (hc:Calm wr w2):RpI w0 w2 v zs L:=⟨h.own.to hc,fun z hz=>(h.each z hz).calm hc,h.few⟩
theorem RpI.le {w0 wr:World} {v:Value} {zs:List NewC} {L M:Nat} (h:RpI w0 wr v zs L) (hl:L≤M):RpI w0 wr v zs M:=⟨h.own,h.each,Nat.le_trans h.few hl⟩
theorem RpI.add {w0 wr w2 w3:World} {v v2:Value} {zs:List NewC} {z:NewC} {L:Nat} (h:RpI w0 wr v zs L) (hc:Calm wr w2) (hz:PcO w0 w2 z) (hg:w2.grownBy w3 v.ownBlock) (hown:OwnX encC 9 71 w0 w3 v2 (zs++[z])):RpI w0 w3 v2 (zs++[z]) (L+1):=by
 refine⟨hown,fun y hy=>?_,by have:=h.few;rw[List.length_append,List.length_singleton];omega⟩
 rcases List.mem_append.1 hy with hy | hy
 ·exact ((h.each y hy).calm hc).own (by decide) (by decide) (h.own.to hc).own hg
 ·rw[List.mem_singleton] at hy
  subst hy
  exact hz.own (by decide) (by decide) (h.own.to hc).own hg
theorem RpI.reads {w0 wr:World} {v:Value} {zs:List NewC} {L:Nat} (h:RpI w0 wr v zs L):∃A c,v=.slice A zs.length c∧zs.length≤c∧c≤9223372036854775807∧PcsR wr A (zs.map (·.p)):=by
 have ha:∀z∈zs,PcA wr z:=fun z hz=>(h.each z hz).a h.own.calm
 rcases h.own.row encC_len with⟨rfl,h0⟩ | ⟨g,c,rfl,h1,h2,_,hr⟩
 ·subst h0
  exact⟨none,0,rfl,Nat.le_refl _,by omega,[],rfl,fun h=>absurd rfl h,fun y hy=>by cases hy⟩
 ·exact⟨_,c,rfl,h1,h2,zs,rfl,fun _=>⟨g,0,rfl,hr.lt,fun k x hk i u hu=>hr.cell k x hk i u hu⟩,ha⟩
theorem info_rpc:(Tryz.prog.info? 71).map (fun i=>(i.zero,i.size,i.bytes))=some (some (.agg #[.slice none 0 0,.bool false,.slice none 0 0,.int .i64 0,.bool false,.slice none 0 0,.bool false,.slice none 0 0,.bool false]),9,136):=by kernel_rfl
theorem wpList_append_rp {ops:Array Oper} {rest:List Oper} {o:Oper} {a:Act} {Q:Exit→Act→World→Prop} {w:World} (hgd:o.guard=none) (s x:Operand)
  (ho:o.op=.call { callee:=.builtin .append,args:=#[s,x],argTypes:=#[62,62] }) (w0:World) (v:Value) (l m:List NewC) (hs:a.eval s=v) (hown:OwnX encC 9 71 w0 w v l) (A:Option Addr) (n c:Nat) (hx:a.eval x=.slice A n c) (hm:m.length=n)
  (hrd:ReadX encC 9 w A m) (hl:l.length+n≤2000000)
  (h:∀v' w',OwnX encC 9 71 w0 w' v' (l++m)→w.grownBy w' v.ownBlock→Fresh w v v'→wpList Tryz.prog ops Q rest (a.put o.dst v') w'):wpList Tryz.prog ops Q (o :: rest) a w:=by
 refine wpList_plain hgd fun _ hK=>?_
 obtain⟨i0,hi0,hz0,hz1,hz2⟩:=info_parts info_rpc
 obtain⟨v',w',hr,h2,h3⟩:=run_append_xs (P:=Tryz.prog) (ty:=o.type) (c:=c) Tryz.underlying62 hi0 hz0 hz1 hz2 rfl (by decide) encC_len encC_one hown hm hrd hl (by decide)
 have hf:=append_fresh (P:=Tryz.prog) (ty:=o.type) (c:=c) Tryz.underlying62 hi0 hz0 hz1 hz2 rfl (by decide) encC_len encC_one hown hm hrd hl (by decide) hr
 unfold Oper.wp execOp
 simp only[ho,resolve,invoke,builtin,Sem.run_bind,Sem.run_pure,Result.andThen_ok,List.map_toArray,List.map_cons,List.map_nil,hs,hx]
 rw[hr]
 exact hK _ _ (h v' w' h2 h3 hf)
theorem fresh_ne {w:World} {v v':Value} {B:Nat} (h:Fresh w v v') (hB:B < w.heap.size) (hne:some B≠v.ownBlock):some B≠v'.ownBlock:=by
 rcases h with h | ⟨g,hg,hl⟩
 ·rw[h]
  exact hne
 ·rw[hg]
  intro e
  injection e with e
  omega
structure RpJ (w9 wr:World) (v:Value) (zs:List NewC) (L B15 B16:Nat) (gv zv:List Value) (HA3:Option Addr) (hc3:Nat) (g:Reg) (RA:Option Addr) (rc:Nat) (rp:List Str):Prop where
 pc:RpI w9 wr v zs L
 reg:BoxK 67 wr B15 gv
 z:CellsB wr B16 zv
 ne:some B16≠v.ownBlock
 hs:PatsN wr w9.heap.size HA3 hc3 g.hs
 r:StrO w9 wr RA rc rp
theorem RpJ.calm {w9 wr w2:World} {v:Value} {zs:List NewC} {L B15 B16:Nat} {gv zv:List Value} {HA3:Option Addr} {hc3:Nat} {g:Reg} {RA:Option Addr} {rc:Nat} {rp:List Str} (h:RpJ w9 wr v zs L B15 B16 gv zv HA3 hc3 g RA rc rp) (hc:Calm wr w2):RpJ w9 w2 v zs L B15 B16 gv zv HA3 hc3 g RA rc rp:=
 ⟨h.pc.calm hc,h.reg.calm hc,h.z.calm hc,h.ne,h.hs.calm hc,h.r.calm hc⟩
theorem RpJ.le {w9 wr:World} {v:Value} {zs:List NewC} {L M B15 B16:Nat} {gv zv:List Value} {HA3:Option Addr} {hc3:Nat} {g:Reg} {RA:Option Addr} {rc:Nat} {rp:List Str} (h:RpJ w9 wr v zs L B15 B16 gv zv HA3 hc3 g RA rc rp) (hl:L≤M):RpJ w9 wr v zs M B15 B16 gv zv HA3 hc3 g RA rc rp:=
 ⟨h.pc.le hl,h.reg,h.z,h.ne,h.hs,h.r⟩
theorem RpJ.add {w9 wr w2 w3:World} {v v2:Value} {zs:List NewC} {z:NewC} {L B15 B16:Nat} {gv zv:List Value} {HA3:Option Addr} {hc3:Nat} {g:Reg} {RA:Option Addr} {rc:Nat} {rp:List Str} (h:RpJ w9 wr v zs L B15 B16 gv zv HA3 hc3 g RA rc rp) (hc:Calm wr w2) (hz:PcO w9 w2 z) (hg:w2.grownBy w3 v.ownBlock) (hf:Fresh w2 v v2) (hown:OwnX encC 9 71 w9 w3 v2 (zs++[z])):RpJ w9 w3 v2 (zs++[z]) (L+1) B15 B16 gv zv HA3 hc3 g RA rc rp:=
 have ho:=(h.pc.own.to hc).own
 have h16:=h.z.calm hc
 ⟨h.pc.add hc hz hg hown,(h.reg.calm hc).own (by decide) ho hg,h16.grown hg h.ne,fresh_ne hf h16.lt h.ne,(h.hs.calm hc).own (by decide) (by decide) ho hg,(h.r.calm hc).own (by decide) ho hg⟩
theorem two_new2 (w:World) (v0 v1 u0 u1:Value) (T:TypeId):TwoB ((w.alloc (.cells #[v0,v1] T)).alloc (.cells #[u0,u1] T)) (w.heap.size+1) u0 u1:=by
 have:=TwoB.new (w.alloc (.cells #[v0,v1] T)) u0 u1 T
 simpa using this
set_option maxHeartbeats 8000000 in
theorem rin_c (p:Pat) (nm:Str) (A:Option Addr) (n cp:Nat) (re:Bool) (w:World) (hr:StrsR w A p.parts) (hn:p.parts.length=n) (hre:p.rest=re) (hroom:n≤cp) (hcap:cp≤9223372036854775807) (hc:nm.length≤16384) (h0:0 < n) :
  Calls Tryz.prog 60 #[.agg #[.slice A n cp,.bool re],.string (bs nm)] w fun e w'=>FixEnd (storedP p nm).parts n re w.heap.size e w'∧Calm w w':=by
 obtain⟨w1,hw1⟩:∃w1,w1=(w.alloc (.cells #[.slice A n cp,.bool re] 51)).alloc (.cells #[.slice none 0 0,.bool false] 51):=⟨_,rfl⟩
 obtain⟨B,hB⟩:∃B,w.heap.size=B:=⟨_,rfl⟩
 have hc1:Calm w w1:=by rw[hw1];exact ((Calm.refl w).alloc _).alloc _
 have hb0:TwoB w1 B (.slice A n cp) (.bool re):=by
  rw[hw1,←hB]
  exact (TwoB.new w _ _ _).calm ((Calm.refl _).alloc _)
 have hb1:TwoB w1 (B+1) (.slice none 0 0) (.bool false):=by
  rw[hw1,←hB]
  exact two_new2 w _ _ _ _ _
 have hsz:w1.heap.size=B+2:=by rw[hw1,←hB];simp
 obtain⟨x,tl,hpt⟩:∃x tl,p.parts=x :: tl:=by
  rcases h:p.parts with _ | ⟨x,tl⟩
  ·rw[h] at hn
   simp at hn
   omega
  ·exact⟨x,tl,rfl⟩
 have hst:(storedP p nm).parts=nm :: tl:=by
  show p.parts.set 0 nm=_
  rw[hpt]
  rfl
 have htl:tl.length=n - 1:=by rw[hpt] at hn;simp at hn;omega
 have hns:n≤16384:=by rw[←hn];exact hr.len
 obtain⟨b,o,rfl,hb,hk⟩:=hr.at_ (by rw[hn];exact h0)
 have hrd:∀A',(0 < tl.length→A'=some ⟨b,o+1,none⟩)→ReadX encS 1 w A' tl:=fun A' hA' hne=>by
  have hl:0 < tl.length:=List.length_pos_iff.2 hne
  refine⟨b,o+1,hA' hl,hb,fun k y hy i u hu=>?_⟩
  have hi:i=0:=by
   have:=(List.getElem?_eq_some_iff.1 hu).1
   simp[encS] at this
   exact this
  subst hi
  obtain rfl:Value.string (bs y)=u:=by simpa[encS] using hu
  have:=hk (k+1) y (by rw[hpt];simpa using hy)
  have e2:o+(k+1)=o+1+k * 1+0:=by omega
  rw[←e2]
  exact this
 have HEach:Hid (∀l∈nm :: tl,l.length≤1048576):=fun l hl=>by
  rcases List.mem_cons.1 hl with rfl | hl
  ·omega
  ·have:=hr.each l (by rw[hpt];exact List.mem_cons_of_mem _ hl)
   omega
 have HRd:=Lib.hid hrd
 have HW:=Lib.hid hw1
 have HBs:=Lib.hid hB
 have HC:=Lib.hid hc1
 have HB0:=Lib.hid hb0
 have HB1:=Lib.hid hb1
 have HSt:=Lib.hid hst
 have HTl:=Lib.hid htl
 have HSz:=Lib.hid hsz
 have hm1:(1:Int)≤(n:Int):=by omega
 have hm2:(n:Int)≤(cp:Int):=by omega
 have hm3:1≤n:=h0
 have n0:¬B+1=B:=by omega
 rw[hst]
 clear hr hn hre hw1 hB hc1 hb0 hb1 hst htl hsz hpt hrd hk hb
 have hsp:cp=1∨¬cp=1:=Decidable.em _
 have HEnd:Hid (∀W g c5 u0 u1 v0 v1 ls,Calm w1 W→NewS W (B+2) (some ⟨g,0,none⟩) c5 ls→ls.length=n→TwoB W (B+1) v0 v1→NewS ((W.setCell ⟨B+1,0,none⟩ u0).setCell ⟨B+1,1,none⟩ u1) B (some ⟨g,0,none⟩) c5 ls∧Calm w ((W.setCell ⟨B+1,0,none⟩ u0).setCell ⟨B+1,1,none⟩ u1)):=fun W g c5 u0 u1 v0 v1 ls hW hN hl hT=>
  ⟨((hN.set (p:=⟨B+1,0,none⟩) u0 (by show B+1 < B+2;omega)).set (p:=⟨B+1,1,none⟩) u1 (by show B+1 < B+2;omega)).mono (by omega),Below.setCell (p:=⟨B+1,1,none⟩) (Below.setCell (p:=⟨B+1,0,none⟩) (HC.out.trans hW) (by have:=HBs.out;show w.heap.size≤B+1;omega) _) (by have:=HBs.out;show w.heap.size≤B+1;omega) _⟩
 go_enter Tryz.func60,Tryz.ntmps60
 go_wp2_with fail
 rw[←HW.out]
 simp only[HBs.out]
 have HS:Hid (∀W,Calm w1 W→W.cell? ⟨B,0,none⟩=some (.slice (some ⟨b,o,none⟩) n cp)∧W.cell? ⟨B,1,none⟩=some (.bool re)):=fun W hW=>⟨(HB0.out.calm hW).c0,(HB0.out.calm hW).c1⟩
 have HS1:Hid (∀W u0 u1,Calm w1 W→((W.setCell ⟨B+1,0,none⟩ u0).setCell ⟨B+1,1,none⟩ u1).cell? ⟨B,0,none⟩=some (.slice (some ⟨b,o,none⟩) n cp)∧((W.setCell ⟨B+1,0,none⟩ u0).setCell ⟨B+1,1,none⟩ u1).cell? ⟨B,1,none⟩=some (.bool re)):=fun W u0 u1 hW=>by
  have h:=two_other (o:=1) (two_other (o:=0) (HB0.out.calm hW) n0 u0) n0 u1
  exact⟨h.c0,h.c1⟩
 rcases hsp with rfl | hsp
 ·obtain rfl:n=1:=by omega
  have HTl:Hid (tl.length=0):=HTl.out
  have hrd:ReadX encS 1 ((w1.alloc (.cells #[.string (bs nm)] 9)).drew) (some ⟨b,o,none⟩) tl:=(HRd.out _ (fun h=>by have:=HTl.out;omega)).calm (HC.out.trans (Below.drew ((Calm.refl _).alloc _)))
  go_region_held3 (fun W=>W.cell? ⟨B,0,none⟩=some (.slice (some ⟨b,o,none⟩) 1 1)∧W.cell? ⟨B,1,none⟩=some (.bool re))
   (first
    |with_reducible exact HS.out _ (Calm.refl _)
    |with_reducible exact HS.out _ (Below.drew (Calm.refl _))
    |with_reducible exact HS.out _ ((Calm.refl _).alloc _)
    |with_reducible exact HS.out _ (Below.drew ((Calm.refl _).alloc _))
    |with_reducible exact HS.out _ hcx
    |with_reducible exact HS.out _ (Below.drew hcx)
    |with_reducible exact HS1.out _ _ _ hcx
    |go_keep)
   (first
    |(refine step_append_xs (enc:=encS) (K:=1) (T:=9) Tryz.underlying41 info_strE rfl (by decide) (by decide) encS_len encS_one rfl (.tmp 6) (.tmp 9) rfl w1 (.slice (some ⟨w1.heap.size,0,none⟩) 1 1) [nm] tl (by simp[Act.eval,Act.put]) ((encS_own w1 nm).to (Below.drew (Calm.refl _))) (some ⟨b,o,none⟩) 0 0 (by simp[Act.eval,Act.put]) HTl.out (hrd) (by simp) ?_;intro v5 w5 hown5 hg5;have hcx:Calm w1 w5:=hown5.calm;have HO5:=Lib.hid hown5;obtain⟨g5,c5,hv5,_,_,_⟩:=hown5.names (L:=1) (by rw[List.length_append,HTl.out];rfl) (by decide);subst hv5;have hT5:=HB1.out.calm hcx;have z0:=hT5.c0;have z1:=hT5.c1;have f0:=hT5.fz 0;have f1:=hT5.fz 1))
  all_goals
   have hN5:NewS w5 (B+2) (some ⟨g5,0,none⟩) c5 (nm :: tl):=(HO5.out.strsU (by rw[List.length_append,HTl.out];show 1+_≤_;omega) HEach.out).mono (by have:=HSz.out;omega)
   have hL5:(nm :: tl).length=1:=by rw[List.length_cons,HTl.out]
   obtain⟨r1,r2⟩:=HEnd.out w5 g5 c5 (.slice (some ⟨g5,0,none⟩) 1 c5) (.bool re) _ _ (nm :: tl) hcx hN5 hL5 (HB1.out.calm hcx)
   have hb4:=two_put (HB1.out.calm hcx) (.slice (some ⟨g5,0,none⟩) 1 c5) (.bool re)
   have q0:=hb4.c0
   have q1:=hb4.c1
   have HR:=Lib.hid (And.intro r1 r2)
   clear r1 r2 hN5 hL5 hb4 hown5 HO5
   go_wp2_with fail
   refine bodyPost_ret (v:=.agg #[.slice (some ⟨g5,0,none⟩) 1 c5,.bool re]) ?_ rfl ⟨⟨_,_,rfl,by rw[HBs.out];exact HR.out.1⟩,HR.out.2⟩
   rw[results_cell1 rfl]
   go_simp
 ·have hrd:ReadX encS 1 ((w1.alloc (.cells #[.string (bs nm)] 9)).drew) (some ⟨b,o+1,none⟩) tl:=(HRd.out _ (fun h=>rfl)).calm (HC.out.trans (Below.drew ((Calm.refl _).alloc _)))
  go_region_held3 (fun W=>W.cell? ⟨B,0,none⟩=some (.slice (some ⟨b,o,none⟩) n cp)∧W.cell? ⟨B,1,none⟩=some (.bool re))
   (first
    |with_reducible exact HS.out _ (Calm.refl _)
    |with_reducible exact HS.out _ (Below.drew (Calm.refl _))
    |with_reducible exact HS.out _ ((Calm.refl _).alloc _)
    |with_reducible exact HS.out _ (Below.drew ((Calm.refl _).alloc _))
    |with_reducible exact HS.out _ hcx
    |with_reducible exact HS.out _ (Below.drew hcx)
    |with_reducible exact HS1.out _ _ _ hcx
    |go_keep)
   (first
    |(refine step_append_xs (enc:=encS) (K:=1) (T:=9) Tryz.underlying41 info_strE rfl (by decide) (by decide) encS_len encS_one rfl (.tmp 6) (.tmp 9) rfl w1 (.slice (some ⟨w1.heap.size,0,none⟩) 1 1) [nm] tl (by simp[Act.eval,Act.put]) ((encS_own w1 nm).to (Below.drew (Calm.refl _))) (some ⟨b,o+1,none⟩) (n - 1) (cp - 1) (by simp[Act.eval,Act.put]) HTl.out (hrd) (by simp;omega) ?_;intro v5 w5 hown5 hg5;have hcx:Calm w1 w5:=hown5.calm;have HO5:=Lib.hid hown5;obtain⟨g5,c5,hv5,_,_,_⟩:=hown5.names (L:=n) (by rw[List.length_append,HTl.out];show 1+(n - 1)=n;omega) h0;subst hv5;have hT5:=HB1.out.calm hcx;have z0:=hT5.c0;have z1:=hT5.c1;have f0:=hT5.fz 0;have f1:=hT5.fz 1))
  all_goals
   have hN5:NewS w5 (B+2) (some ⟨g5,0,none⟩) c5 (nm :: tl):=(HO5.out.strsU (by rw[List.length_append,HTl.out];show 1+_≤_;omega) HEach.out).mono (by have:=HSz.out;omega)
   have hL5:(nm :: tl).length=n:=by rw[List.length_cons,HTl.out];omega
   obtain⟨r1,r2⟩:=HEnd.out w5 g5 c5 (.slice (some ⟨g5,0,none⟩) n c5) (.bool re) _ _ (nm :: tl) hcx hN5 hL5 (HB1.out.calm hcx)
   have hb4:=two_put (HB1.out.calm hcx) (.slice (some ⟨g5,0,none⟩) n c5) (.bool re)
   have q0:=hb4.c0
   have q1:=hb4.c1
   have HR:=Lib.hid (And.intro r1 r2)
   clear r1 r2 hN5 hL5 hb4 hown5 HO5
   go_wp2_with fail
   refine bodyPost_ret (v:=.agg #[.slice (some ⟨g5,0,none⟩) n c5,.bool re]) ?_ rfl ⟨⟨_,_,rfl,by rw[HBs.out];exact HR.out.1⟩,HR.out.2⟩
   rw[results_cell1 rfl]
   go_simp
theorem CellsB.set1 {w:World} {B:Nat} {vs:List Value} (h:CellsB w B vs) (i:Nat) (hi:i < vs.length) (u:Value):CellsB (w.setCell ⟨B,i,none⟩ u) B (vs.set i u):=by
 refine⟨by simpa using h.lt,fun j v hv=>?_,fun o=>by simpa using h.fz o⟩
 by_cases e:i=j
 ·subst e
  rw[List.getElem?_set_self hi] at hv
  obtain rfl:=Option.some.inj hv
  exact World.cell?_setCell_same' _ _ _ (by rw[h.at_ i _ (List.getElem?_eq_getElem hi)];rfl)
 ·rw[List.getElem?_set_ne e] at hv
  rw[World.cell?_setCell_other _ _ _ _ (by intro e3;have:=congrArg Addr.off e3;simp at this;omega)]
  exact h.at_ j v hv
structure OwnZ (w4 wx:World) (B16:Nat) (a:Pl) (lp:Nat) (rp:Bool) (HA3:Option Addr) (gh hc3:Nat) (κ:Int) (A2:Option Addr) (c2:Nat) (ls:List Str):Prop where
 calm:Calm w4 wx
 ge:w4.heap.size≤B16
 z:CellsB wx B16 [.slice a.AL lp a.cl,.bool rp,.slice HA3 gh hc3,.int .i64 κ,.bool false,.slice a.AL lp a.cl,.bool rp,.slice A2 lp c2,.bool rp]
 r:NewS wx w4.heap.size A2 c2 ls
theorem ownZ_new {w4 w5:World} {a:Pl} {lp gh hc3 c2:Nat} {rp:Bool} {HA3 A2:Option Addr} {κ:Int} {ls:List Str} (hc:Calm w4 w5) (hN:NewS w5 w4.heap.size A2 c2 ls) :
  OwnZ w4 (w5.alloc (.cells #[.slice a.AL lp a.cl,.bool rp,.slice HA3 gh hc3,.int .i64 κ,.bool false,.slice a.AL lp a.cl,.bool rp,.slice A2 lp c2,.bool rp] 71)) w5.heap.size a lp rp HA3 gh hc3 κ A2 c2 ls:=
 ⟨hc.alloc _,hc.size,CellsB.new w5 _ _,hN.calm ((Calm.refl _).alloc _)⟩
theorem ownZ_set {w4 w5:World} {b:Nat} {a:Pl} {lp gh hc3 c2:Nat} {rp:Bool} {HA3 A2:Option Addr} {κ:Int} {ls:List Str} (hc:Calm w4 w5) (hb:w4.heap.size≤b) (hz:CellsB w5 b zero9) (hN:NewS w5 (b+1) A2 c2 ls) :
  OwnZ w4 (set9 w5 b (.slice a.AL lp a.cl) (.bool rp) (.slice HA3 gh hc3) (.int .i64 κ) (.bool false) (.slice a.AL lp a.cl) (.bool rp) (.slice A2 lp c2) (.bool rp)) b a lp rp HA3 gh hc3 κ A2 c2 ls:=
 ⟨calm9 hc hb _ _ _ _ _ _ _ _ _,hb,hz.put [.slice a.AL lp a.cl,.bool rp,.slice HA3 gh hc3,.int .i64 κ,.bool false,.slice a.AL lp a.cl,.bool rp,.slice A2 lp c2,.bool rp] rfl,(hN.set9 (Nat.lt_succ_self b) _ _ _ _ _ _ _ _ _).mono (by omega)⟩
structure OwnY (w6 w4 wx:World) (B16:Nat) (a:Pl) (lp:Nat) (rp:Bool) (HA3:Option Addr) (gh hc3:Nat) (κ:Int) (RA:Option Addr) (rc rl:Nat) (rrb:Bool) (ow:Rule):Prop where
 calm:Calm w4 wx
 ge:w4.heap.size≤B16
 z:CellsB wx B16 [.slice a.AL lp a.cl,.bool rp,.slice HA3 gh hc3,.int .i64 κ,.bool false,.slice a.AL lp a.cl,.bool rp,.slice RA rl rc,.bool rrb]
 r:StrO w6 wx RA rc ow.right.parts
 rl:ow.right.parts.length=rl∧ow.right.rest=rrb∧rl≤rc∧rc≤9223372036854775807
theorem ownR_left {nm:Str} {x:Line}:(ownR nm x).left=x.path∧(ownR nm x).excl=false:=by
 unfold ownR
 split <;> exact⟨rfl,rfl⟩
theorem ownR_imp {nm:Str} {x:Line} (h:x.kind=3):ownR nm x=x.rule:=by
 unfold ownR
 rw[if_pos h]
theorem ownR_own {nm:Str} {x:Line} (h:x.kind≠3):ownR nm x=⟨false,x.path,storedP x.path nm⟩:=by
 unfold ownR
 rw[if_neg h]
theorem ownY_own {w6 w4 wx:World} {B16:Nat} {a:Pl} {lp:Nat} {rp:Bool} {HA3:Option Addr} {gh hc3:Nat} {κ:Int} {A2:Option Addr} {c2:Nat} {nm:Str} {x:Line} (h:OwnZ w4 wx B16 a lp rp HA3 gh hc3 κ A2 c2 (storedP x.path nm).parts) (hk:x.kind≠3) (h6:w6.heap.size≤w4.heap.size) (hl:x.path.parts.length=lp) (hr:x.path.rest=rp):OwnY w6 w4 wx B16 a lp rp HA3 gh hc3 κ A2 c2 lp rp (ownR nm x):=by
 rw[ownR_own hk]
 refine⟨h.calm,h.ge,h.z,.inr (h.r.mono h6),?_,hr,?_,h.r.cap⟩
 ·show (x.path.parts.set 0 nm).length=lp
  rw[List.length_set]
  exact hl
 ·have:=h.r.room
  have e:(storedP x.path nm).parts.length=lp:=by
   show (x.path.parts.set 0 nm).length=lp
   rw[List.length_set]
   exact hl
  rw[e] at this
  exact this
theorem ownY_imp {w6 w4 wx:World} {B16:Nat} {a:Pl} {lp lf:Nat} {rp rf:Bool} {HA3:Option Addr} {gh hc3:Nat} {κ:Int} {A2:Option Addr} {c2:Nat} {nm:Str} {ls:List Str} {x:Line} (h:OwnZ w4 wx B16 a lp rp HA3 gh hc3 κ A2 c2 ls) (hk:x.kind=3) (hu:RuleU w6 a x.rule) (hl:x.frm.parts.length=lf) (hr:x.frm.rest=rf):OwnY w6 w4 ((wx.setCell ⟨B16,7,none⟩ (.slice a.AR lf a.cr)).setCell ⟨B16,8,none⟩ (.bool rf)) B16 a lp rp HA3 gh hc3 κ a.AR a.cr lf rf (ownR nm x):=by
 rw[ownR_imp hk]
 have h1:=(h.z.set1 7 (by simp) (.slice a.AR lf a.cr)).set1 8 (by simp) (.bool rf)
 exact⟨Below.setCell (p:=⟨B16,8,none⟩) (Below.setCell (p:=⟨B16,7,none⟩) h.calm h.ge _) h.ge _,h.ge,h1,.inl hu.rr,hl,hr,by rw[←hl];exact hu.rroom,hu.rcap⟩
theorem rwide_small {nm:Str} {x:Line} {p:Pc} (hnl:nm.length≤40) (hx:SmallV x.rule) (hp:PcUp p) (hz:PcZU p):SmallR (rwide nm x p):=by
 unfold rwide
 by_cases h3:p.kind=3
 ·rw[if_pos h3]
  obtain⟨r1,r2⟩:=hp.r h3
  have tw:=ruleErr_twin.1 r1
  have hl:LetP 40 p.line.left:=by rw[r2];exact hz.b
  exact⟨by have:=pat_few tw.lp;omega,fun y hy=>by have:=hl y hy;omega,by have:=pat_few tw.rp;omega,fun y hy=>by have:=(hz.r h3).right hl y hy;omega⟩
 ·rw[if_neg h3]
  by_cases hk:x.kind=3
  ·rw[ownR_imp hk]
   exact hx.small
  ·rw[ownR_own hk]
   have hs:=hx.small
   refine⟨hs.lp,hs.ls,?_,fun y hy=>?_⟩
   ·show (x.path.parts.set 0 nm).length≤_
    rw[List.length_set]
    exact hs.lp
   ·rcases List.mem_or_eq_of_mem_set hy with h | h
    ·exact hs.ls y h
    ·subst h
     omega
structure ZAt (wb wx:World) (B22:Nat) (mv:List Value) (kk:Int) (wd:Rule) (a3:Pl) (l r:Nat) (lr rr ex:Bool):Prop where
 calm:Calm wb wx
 ge:wb.heap.size≤B22
 z:∃g0 g1 g2,mv=[g0,g1,g2]∧CellsB wx B22 [g0,g1,g2,.int .i64 kk,.bool ex,.slice a3.AL l a3.cl,.bool lr,.slice a3.AR r a3.cr,.bool rr]
 u:RuleU wx a3 wd
 nn:wd.left.parts.length=l∧wd.right.parts.length=r∧wd.left.rest=lr∧wd.right.rest=rr∧wd.excl=ex
theorem ownX_below {α:Type} {enc:α→List Value} {K:Nat} {T:TypeId} {w0 w:World} {v:Value} {l:List α} (h:OwnX enc K T w0 w v l) {b:Nat} (hb:w.heap.size≤b):some b≠v.ownBlock:=fun e=>by
 rcases h.own.2 with⟨rfl,_⟩ | ⟨g,cap,cur,rfl,_,hgh,_⟩
 ·simp[Value.ownBlock] at e
 ·have e2:b=g:=by simpa[Value.ownBlock] using e
  have:=heap_lt hgh
  omega
theorem pcO_own {w9 w:World} {a:Pl} {HA3 RA:Option Addr} {hc3 rc:Nat} {κ:Int} {og:Reg} {nm:Str} {x:Line} (hu:RuleU w9 a x.rule) (hcl:Calm w9 w) (hs:SmallR x.rule) (hb:og.b=x.path) (hh:PatsN w w9.heap.size HA3 hc3 og.hs) (hl:og.hs.length≤16384) (hr:StrO w9 w RA rc (ownR nm x).right.parts) (hrl:(ownR nm x).right.parts.length≤rc∧rc≤9223372036854775807):PcO w9 w ⟨a.AL,a.cl,HA3,hc3,⟨a.AL,a.cl,RA,rc⟩,⟨og,κ,ownR nm x⟩⟩:=by
 have e:=(ownR_left (nm:=nm) (x:=x)).1
 refine⟨?_,hh,?_,hr,?_,?_,hrl,?_,?_,hl⟩
 ·show StrO w9 w a.AL a.cl og.b.parts
  rw[hb]
  exact .inl hu.lr
 ·show StrO w9 w a.AL a.cl (ownR nm x).left.parts
  rw[e]
  exact .inl hu.lr
 ·show og.b.parts.length≤a.cl∧a.cl≤_
  rw[hb]
  exact⟨hu.lroom,hu.lcap⟩
 ·show (ownR nm x).left.parts.length≤a.cl∧a.cl≤_
  rw[e]
  exact⟨hu.lroom,hu.lcap⟩
 ·show og.b.parts.length≤16384
  rw[hb]
  exact hs.lp
 ·show ∀l∈og.b.parts,l.length≤16384
  rw[hb]
  exact hs.ls
theorem pcO_new {w9 w:World} {B B2:Nat} {A HA:Option Addr} {c hc:Nat} {a:Pl} {g:Reg} {k:Int} {nr:Rule} (hg:RegN w B A c HA hc g) (hr:RuleN w B2 a nr) (h1:w9.heap.size≤B) (h2:w9.heap.size≤B2) (hl:g.hs.length≤16384):PcO w9 w ⟨A,c,HA,hc,a,⟨g,k,nr⟩⟩:=
 ⟨.inr (hg.base.new.mono h1),hg.holes.mono h1,.inr (hr.l.mono h2),.inr (hr.r.mono h2),⟨hg.base.new.room,hg.base.new.cap⟩,⟨hr.l.room,hr.l.cap⟩,⟨hr.r.room,hr.r.cap⟩,hg.base.few,hg.base.each,hl⟩
theorem ownR_u {w9 w:World} {a:Pl} {RA:Option Addr} {rc:Nat} {nm:Str} {x:Line} (hu:RuleU w9 a x.rule) (hc:Calm w9 w) (hr:StrO w9 w RA rc (ownR nm x).right.parts) (hrl:(ownR nm x).right.parts.length≤rc∧rc≤9223372036854775807):RuleU w ⟨a.AL,a.cl,RA,rc⟩ (ownR nm x):=by
 have e:=(ownR_left (nm:=nm) (x:=x)).1
 refine⟨?_,hr.u hc,?_,hrl.1,hu.lcap,hrl.2⟩
 ·show StrsU w a.AL (ownR nm x).left.parts
  rw[e]
  exact hu.lr.calm hc
 ·show (ownR nm x).left.parts.length≤a.cl
  rw[e]
  exact hu.lroom
abbrev set6a (w:World) (b:Nat) (u3 u4 u5 u6 u7 u8:Value):World:=(((((w.setCell ⟨b,3,none⟩ u3).setCell ⟨b,4,none⟩ u4).setCell ⟨b,5,none⟩ u5).setCell ⟨b,6,none⟩ u6).setCell ⟨b,7,none⟩ u7).setCell ⟨b,8,none⟩ u8
abbrev set5b (w:World) (b:Nat) (u4 u5 u6 u7 u8:Value):World:=((((w.setCell ⟨b,4,none⟩ u4).setCell ⟨b,5,none⟩ u5).setCell ⟨b,6,none⟩ u6).setCell ⟨b,7,none⟩ u7).setCell ⟨b,8,none⟩ u8
theorem calm5b {w0 w:World} {b:Nat} (h:Calm w0 w) (hb:w0.heap.size≤b) (u4 u5 u6 u7 u8:Value):Calm w0 (set5b w b u4 u5 u6 u7 u8):=
 Below.setCell (p:=⟨b,8,none⟩) (Below.setCell (p:=⟨b,7,none⟩) (Below.setCell (p:=⟨b,6,none⟩) (Below.setCell (p:=⟨b,5,none⟩) (Below.setCell (p:=⟨b,4,none⟩) h hb _) hb _) hb _) hb _) hb _
theorem CellsB.put5b {w:World} {B:Nat} {g0 g1 g2 v3 v4 v5 v6 v7 v8:Value} (h:CellsB w B [g0,g1,g2,v3,v4,v5,v6,v7,v8]) (u4 u5 u6 u7 u8:Value):CellsB (set5b w B u4 u5 u6 u7 u8) B [g0,g1,g2,v3,u4,u5,u6,u7,u8]:=
 ((((h.set1 4 (by simp) u4).set1 5 (by simp) u5).set1 6 (by simp) u6).set1 7 (by simp) u7).set1 8 (by simp) u8
theorem RegN.set5b {w:World} {B b:Nat} {A HA:Option Addr} {c hc:Nat} {g:Reg} (h:RegN w B A c HA hc g) (hb:b < B) (u4 u5 u6 u7 u8:Value):RegN (Go.Proofs.YtdcdabbepnahnaaGreatDoor.set5b w b u4 u5 u6 u7 u8) B A c HA hc g:=
 ((((h.set (p:=⟨b,4,none⟩) u4 hb).set (p:=⟨b,5,none⟩) u5 hb).set (p:=⟨b,6,none⟩) u6 hb).set (p:=⟨b,7,none⟩) u7 hb).set (p:=⟨b,8,none⟩) u8 hb
theorem NewS.set5b {w:World} {B b c:Nat} {A:Option Addr} {ls:List Str} (h:NewS w B A c ls) (hb:b < B) (u4 u5 u6 u7 u8:Value):NewS (Go.Proofs.YtdcdabbepnahnaaGreatDoor.set5b w b u4 u5 u6 u7 u8) B A c ls:=
 ((((h.set (p:=⟨b,4,none⟩) u4 hb).set (p:=⟨b,5,none⟩) u5 hb).set (p:=⟨b,6,none⟩) u6 hb).set (p:=⟨b,7,none⟩) u7 hb).set (p:=⟨b,8,none⟩) u8 hb
theorem zAt_keep {wz wb wx:World} {B22:Nat} {g0 g1 g2:Value} {kk:Int} {wd:Rule} {a3:Pl} {l r:Nat} {lr rr ex:Bool} (hz:Calm wz wb) (hc:Calm wb wx) (hb:wb.heap.size≤B22) (h:CellsB wx B22 [g0,g1,g2,.int .i64 kk,.bool ex,.slice a3.AL l a3.cl,.bool lr,.slice a3.AR r a3.cr,.bool rr]) (hu:RuleU wz a3 wd) (nn:wd.left.parts.length=l∧wd.right.parts.length=r∧wd.left.rest=lr∧wd.right.rest=rr∧wd.excl=ex):ZAt wb wx B22 [g0,g1,g2] kk wd a3 l r lr rr ex:=
 ⟨hc,hb,⟨g0,g1,g2,rfl,h⟩,hu.calm (hz.trans hc),nn⟩
theorem zAt_six {wz wb wx:World} {B22:Nat} {g0 g1 g2 v3 v4 v5 v6 v7 v8:Value} {kk:Int} {wd:Rule} {a3:Pl} {l r:Nat} {lr rr ex:Bool} (hz:Calm wz wb) (hc:Calm wb wx) (hb:wb.heap.size≤B22) (h:CellsB wx B22 [g0,g1,g2,v3,v4,v5,v6,v7,v8]) (hu:RuleU wz a3 wd) (nn:wd.left.parts.length=l∧wd.right.parts.length=r∧wd.left.rest=lr∧wd.right.rest=rr∧wd.excl=ex):ZAt wb (set6a wx B22 (.int .i64 kk) (.bool ex) (.slice a3.AL l a3.cl) (.bool lr) (.slice a3.AR r a3.cr) (.bool rr)) B22 [g0,g1,g2] kk wd a3 l r lr rr ex:=
 zAt_keep hz (calm5b (Below.setCell (p:=⟨B22,3,none⟩) hc hb _) hb _ _ _ _ _) hb ((h.set1 3 (by simp) (.int .i64 kk)).put5b _ _ _ _ _) hu nn
theorem zAt_six2 {wz wb wx:World} {B22:Nat} {g0 g1 g2 v3 v4 v5 v6 v7 v8:Value} {kk:Int} {wd:Rule} {a3:Pl} {l r:Nat} {lr rr ex:Bool} (hz:Calm wz wb) (hc:Calm wb wx) (hb:wb.heap.size≤B22) (h:CellsB wx B22 [g0,g1,g2,v3,v4,v5,v6,v7,v8]) (hu:RuleU wz a3 wd) (nn:wd.left.parts.length=l∧wd.right.parts.length=r∧wd.left.rest=lr∧wd.right.rest=rr∧wd.excl=ex):ZAt wb ((set5b wx B22 (.bool ex) (.slice a3.AL l a3.cl) (.bool lr) (.slice a3.AR r a3.cr) (.bool rr)).setCell ⟨B22,3,none⟩ (.int .i64 kk)) B22 [g0,g1,g2] kk wd a3 l r lr rr ex:=
 zAt_keep hz (Below.setCell (p:=⟨B22,3,none⟩) (calm5b hc hb _ _ _ _ _) hb _) hb ((h.put5b _ _ _ _ _).set1 3 (by simp) (.int .i64 kk)) hu nn
theorem ZAt.to {wb wx w2:World} {B22:Nat} {mv:List Value} {kk:Int} {wd:Rule} {a3:Pl} {l r:Nat} {lr rr ex:Bool} (h:ZAt wb wx B22 mv kk wd a3 l r lr rr ex) (hc:Calm wx w2):ZAt wb w2 B22 mv kk wd a3 l r lr rr ex:=
 ⟨h.calm.trans hc,h.ge,by obtain⟨g0,g1,g2,e,hz⟩:=h.z;exact⟨g0,g1,g2,e,hz.calm hc⟩,h.u.calm hc,h.nn⟩
theorem regA_own {w:World} {a:Pl} {HA:Option Addr} {og:Reg} {x:Line} (hu:RuleU w a x.rule) (hs:SmallR x.rule) (hb:og.b=x.path) (hh:PatsR w HA og.hs):RegA w a.AL a.cl HA og.b og.hs:=by
 rw[hb]
 exact⟨hu.left hs,hu.lroom,hu.lcap,hh⟩
theorem ZAt.cells {wb wx:World} {B22:Nat} {g0 g1 g2:Value} {kk:Int} {wd:Rule} {a3:Pl} {l r:Nat} {lr rr ex:Bool} (h:ZAt wb wx B22 [g0,g1,g2] kk wd a3 l r lr rr ex):CellsB wx B22 [g0,g1,g2,.int .i64 kk,.bool ex,.slice a3.AL l a3.cl,.bool lr,.slice a3.AR r a3.cr,.bool rr]:=by
 obtain⟨h0,h1,h2,e,hz⟩:=h.z
 simp only[List.cons.injEq,and_true] at e
 obtain⟨rfl,rfl,rfl⟩:=e
 exact hz
theorem RuleN.set5b {w:World} {B b:Nat} {a:Pl} {r:Rule} (h:RuleN w B a r) (hb:b < B) (u4 u5 u6 u7 u8:Value):RuleN (Go.Proofs.YtdcdabbepnahnaaGreatDoor.set5b w b u4 u5 u6 u7 u8) B a r:=⟨h.l.set5b hb _ _ _ _ _,h.r.set5b hb _ _ _ _ _⟩
theorem rnar_none {nm:Str} {x:Line} {p:Pc} {g:Reg} {er:Int} (h:(narL (rwide nm x p) g.b).2=er) (h0:er≠0):rnar nm x p g=none:=by
 unfold rnar
 rw[h,if_pos h0]
theorem rnar_zero {nm:Str} {x:Line} {p:Pc} {g:Reg} {kk:Int} {nr:Rule} (h:(narL (rwide nm x p) g.b).2=0) (h1:(narL (rwide nm x p) g.b).1.getD zeroR=nr) (hk:rkind x p=kk):rnar nm x p g=some ⟨g,kk,nr⟩:=by
 unfold rnar
 rw[h,h1,hk]
 rfl
end Go.Proofs.YtdcdabbepnahnaaGreatDoor
