/- Walks: Simplify of a region; the reference's Same of regions. -/
import Derived.Test.YtdcdabbepnahnaaGreatDoorZCopyP
import Derived.Test.YtdcdabbepnahnaaGreatDoorZRowG
import Derived.Test.YtdcdabbepnahnaaGreatDoorZWalkR
import Derived.Test.YtdcdabbepnahnaaGreatDoorZRed3W
import Derived.Test.YtdcdabbepnahnaaGreatDoorZPartAt
set_option linter.unusedVariables false
set_option linter.unusedSimpArgs false
namespace Go.Proofs.YtdcdabbepnahnaaGreatDoor
open Go Go.RowKit Sy
theorem pat_eq_of {p q:Pat} (hr:p.rest=q.rest) (hl:p.parts.length=q.parts.length) (h:∀(j:Nat) x y,p.parts[j]?=some x→q.parts[j]?=some y→x=y):p=q:=by
 obtain⟨ps,pr⟩:=p
 obtain⟨qs,qr⟩:=q
 simp only at hr hl h
 subst hr
 congr 1
 apply List.ext_getElem hl
 intro j h1 h2
 exact h j _ _ (List.getElem?_eq_getElem h1) (List.getElem?_eq_getElem h2)
set_option maxHeartbeats 2000000 in
theorem same_c (p q:Pat) (v:Bool) (A:Option Addr) (c:Nat) (A':Option Addr) (c':Nat) (w:World) (hp:StrsU w A p.parts) (hq:StrsU w A' q.parts) (hv:decide (p=q)=v) :
  Calls Tryz.prog 28 #[.agg #[.slice A p.parts.length c,.bool p.rest],.agg #[.slice A' q.parts.length c',.bool q.rest]] w fun e w'=>e=.returned (.bool v)∧Calm w w':=by
 obtain⟨n,hn⟩:∃n,p.parts.length=n:=⟨_,rfl⟩
 obtain⟨m,hm⟩:∃m,q.parts.length=m:=⟨_,rfl⟩
 obtain⟨re,hre⟩:∃re,p.rest=re:=⟨_,rfl⟩
 obtain⟨re',hre'⟩:∃re',q.rest=re':=⟨_,rfl⟩
 have hlen:=hp.len
 have hlen':=hq.len
 obtain⟨w1,hw1⟩:∃w1,w1=(w.alloc (.cells #[.slice A n c,.bool re] 51)).alloc (.cells #[.slice A' m c',.bool re'] 51):=⟨_,rfl⟩
 have hc1:Calm w w1:=by rw[hw1];exact ((Calm.refl w).alloc _).alloc _
 have k3:w1.cell? ⟨w.heap.size+1,0,none⟩=some (.slice A' m c'):=by rw[hw1];simp[go_sem]
 have HP:=Lib.hid (hp.calm hc1)
 have HQ:=Lib.hid (hq.calm hc1)
 have HC:=Lib.hid hc1
 have HW:=Lib.hid hw1
 have HN:=Lib.hid (And.intro hn (And.intro hm (And.intro hre hre')))
 have HV:=Lib.hid hv
 rw[hn,hm,hre,hre']
 rw[hn] at hlen
 rw[hm] at hlen'
 clear hp hq hn hm hre hre' hv hc1 hw1
 by_cases hrr:re=re'
 ·by_cases hnm:n=m
  ·subst hrr hnm
   go_enter Tryz.func28,Tryz.ntmps28
   go_wp2
   rw[←HW.out]
   go_loop [24] (fun u=>∃k:Nat,k≤n∧u=.int .i64 k∧Hid (∀(j:Nat) x y,j < k→p.parts[j]?=some x→q.parts[j]?=some y→x=y)) (fun u=>n - (intOf u).toNat)
   case atStart=>exact⟨0,Nat.zero_le _,rfl,fun j x y hj=>absurd hj (Nat.not_lt_zero _)⟩
   case round=>
    obtain⟨k,hk,rfl,HI⟩:=hrel
    by_cases hlt:k < n
    ·obtain⟨b,o,x,rfl,hb,hx,hxl,hcx⟩:=HP.out.get (k:=k) (by rw[HN.out.1];exact hlt)
     obtain⟨b',o',y,rfl,hb',hy,hyl,hcy⟩:=HQ.out.get (k:=k) (by rw[HN.out.2.1];exact hlt)
     have HX:=Lib.hid (And.intro hx hy)
     clear hx hy
     by_cases hxy:x=y
     ·subst hxy
      go_wp2
      go_round
      case rel=>
       refine⟨k+1,by omega,by go_num,fun j z z' hj hz hz'=>?_⟩
       by_cases e:j=k
       ·subst e
        rw[HX.out.1] at hz
        rw[HX.out.2] at hz'
        cases hz
        cases hz'
        rfl
       ·exact HI.out j z z' (by omega) hz hz'
      case measure=>simp[intOf];omega
     ·have hE:Hid (v=false):=by
       show v=false
       rw[←HV.out,decide_eq_false_iff_not]
       intro e
       have h1:=HX.out.1
       rw[e,HX.out.2] at h1
       exact hxy (Option.some.inj h1).symm
      have hb1:(x == y)=false:=by simpa using hxy
      clear hxy
      go_wp2
      go_ret
      exact⟨ret_bool (by rw[hE.out]),HC.out⟩
    ·obtain rfl:k=n:=by omega
     have hE:Hid (v=true):=by
      show v=true
      rw[←HV.out,decide_eq_true_eq]
      exact pat_eq_of (HN.out.2.2.1.trans HN.out.2.2.2.symm) (HN.out.1.trans HN.out.2.1.symm) fun j x y hx hy=>HI.out j x y (by rw[←HN.out.1];exact (List.getElem?_eq_some_iff.1 hx).1) hx hy
     go_wp2
     go_ret
     exact⟨ret_bool (by rw[hE.out]),HC.out⟩
  ·have hE:Hid (v=false):=by
    show v=false
    rw[←HV.out,decide_eq_false_iff_not]
    intro e
    exact hnm (by rw[←HN.out.1,←HN.out.2.1,e])
   subst hrr
   have hb1:((n:Int) != (m:Int))=true:=by simp;omega
   clear hnm
   go_enter Tryz.func28,Tryz.ntmps28
   go_wp2
   rw[←HW.out]
   go_ret
   exact⟨ret_bool (by rw[hE.out]),HC.out⟩
 ·have hE:Hid (v=false):=by
   show v=false
   rw[←HV.out,decide_eq_false_iff_not]
   intro e
   exact hrr (by rw[←HN.out.2.2.1,←HN.out.2.2.2,e])
  have hb1:(re != re')=true:=by simpa using hrr
  cases re <;> cases re'
  all_goals first | exact absurd rfl hrr | skip
  all_goals
   clear hrr hb1
   go_enter Tryz.func28,Tryz.ntmps28
   go_wp2
   rw[←HW.out]
   go_ret
   exact⟨ret_bool (by rw[hE.out]),HC.out⟩
structure PatsV (w:World) (A:Option Addr) (ps:List Pat):Prop where
 len:ps.length≤1048576
 at_:0 < ps.length→∃b o,A=some ⟨b,o,none⟩∧b < w.heap.size∧∀(k:Nat) p,ps[k]?=some p→∃Ak ck,w.cell? ⟨b,o+k * 2,none⟩=some (.slice Ak p.parts.length ck)∧w.cell? ⟨b,o+k * 2+1,none⟩=some (.bool p.rest)∧StrsU w Ak p.parts
theorem PatsV.calm {w w':World} {A:Option Addr} {ps:List Pat} (h:PatsV w A ps) (hc:Calm w w'):PatsV w' A ps:=
 ⟨h.len,fun h0=>by
  obtain⟨b,o,rfl,hb,hk⟩:=h.at_ h0
  refine⟨b,o,rfl,Nat.lt_of_lt_of_le hb hc.size,fun k p hp=>?_⟩
  obtain⟨Ak,ck,h1,h2,h3⟩:=hk k p hp
  exact⟨Ak,ck,(hc.cell (p:=⟨b,o+k * 2,none⟩) hb).trans h1,(hc.cell (p:=⟨b,o+k * 2+1,none⟩) hb).trans h2,h3.calm hc⟩⟩
theorem PatsV.get {w:World} {A:Option Addr} {ps:List Pat} (h:PatsV w A ps) {k:Nat} (hk:k < ps.length):∃b o p Ak ck,A=some ⟨b,o,none⟩∧b < w.heap.size∧ps[k]?=some p∧w.cell? ⟨b,o+k * 2,none⟩=some (.slice Ak p.parts.length ck)∧w.cell? ⟨b,o+k * 2+1,none⟩=some (.bool p.rest)∧StrsU w Ak p.parts:=by
 obtain⟨b,o,hA,hb,hc⟩:=h.at_ (by omega)
 obtain⟨Ak,ck,h1,h2,h3⟩:=hc k _ (List.getElem?_eq_getElem hk)
 exact⟨b,o,ps[k],Ak,ck,hA,hb,List.getElem?_eq_getElem hk,h1,h2,h3⟩
theorem PatsR.toV {w:World} {A:Option Addr} {ps:List Pat} (h:PatsR w A ps):PatsV w A ps:=
 ⟨by have:=h.len;omega,fun h0=>by
  obtain⟨b,o,hA,hb,hk⟩:=h.at_ h0
  refine⟨b,o,hA,hb,fun k p hp=>?_⟩
  obtain⟨Ak,ck,h1,h2,_,_,h5⟩:=hk k p hp
  exact⟨Ak,ck,h1,h2,h5.toU⟩⟩
theorem PatsN.toV {w:World} {B:Nat} {A:Option Addr} {c:Nat} {ps:List Pat} (h:PatsN w B A c ps) (hl:ps.length≤1048576):PatsV w A ps:=by
 obtain⟨l,h1,h2,h3⟩:=h.ex
 refine⟨hl,fun h0=>?_⟩
 rcases h2 with⟨_,h2⟩ | ⟨g,hA,hg,hr⟩
 ·rw[h2] at h0
  exact absurd h0 (Nat.lt_irrefl _)
 ·refine⟨g,0,hA,hr.lt,fun k p hp=>?_⟩
  rw[←h1,List.getElem?_map] at hp
  obtain⟨x,hx,rfl⟩:=Option.map_eq_some_iff.1 hp
  exact⟨x.A,x.c,hr.cell k x hx 0 _ rfl,hr.cell k x hx 1 _ rfl,(h3 x (List.mem_of_getElem? hx)).new.u⟩
theorem same_v (p:Pat) (n c c':Nat) (re:Bool) (A A':Option Addr) (w:World) (hp:StrsU w A p.parts) (hq:StrsU w A' p.parts) (hn:p.parts.length=n) (hre:p.rest=re) :
  Calls Tryz.prog 28 #[.agg #[.slice A n c,.bool re],.agg #[.slice A' n c',.bool re]] w fun e w'=>e=.returned (.bool true)∧Calm w w':=by
 subst hn hre
 exact same_c p p true A c A' c' w hp hq (by simp)
set_option maxHeartbeats 4000000 in
theorem rsameg_c (b:Pat) (hs:List Pat) (n m:Nat) (re:Bool) (A:Option Addr) (c:Nat) (HA:Option Addr) (hc:Nat) (A':Option Addr) (c':Nat) (HA':Option Addr) (hc':Nat) (w:World) (hb:StrsU w A b.parts) (hb':StrsU w A' b.parts) (hh:PatsV w HA hs) (hh':PatsV w HA' hs) (hn:b.parts.length=n) (hm:hs.length=m) (hre:b.rest=re) :
  Calls Tryz.prog 29 #[.agg #[.slice A n c,.bool re,.slice HA m hc],.agg #[.slice A' n c',.bool re,.slice HA' m hc']] w fun e w'=>e=.returned (.bool true)∧Calm w w':=by
 have hml:=hh.len
 rw[hm] at hml
 obtain⟨w1,hw1⟩:∃w1,w1=(w.alloc (.cells #[.slice A n c,.bool re,.slice HA m hc] 67)).alloc (.cells #[.slice A' n c',.bool re,.slice HA' m hc'] 67):=⟨_,rfl⟩
 have hc1:Calm w w1:=by rw[hw1];exact ((Calm.refl w).alloc _).alloc _
 have hs0:w.heap.size < w1.heap.size:=by rw[hw1];simp;omega
 have hs1:w.heap.size+1 < w1.heap.size:=by rw[hw1];simp
 have k2:w1.cell? ⟨w.heap.size,2,none⟩=some (.slice HA m hc):=by rw[hw1];simp[go_sem]
 have j2:w1.cell? ⟨w.heap.size+1,2,none⟩=some (.slice HA' m hc'):=by rw[hw1];simp[go_sem]
 have hsm:=same_v b n c c' re A A' w1 (hb.calm hc1) (hb'.calm hc1) hn hre
 have HW:=Lib.hid hw1
 have HC:=Lib.hid hc1
 have HK:=Lib.hid (And.intro k2 (And.intro j2 (And.intro hs0 hs1)))
 have HH:=Lib.hid (hh.calm hc1)
 have HH':=Lib.hid (hh'.calm hc1)
 have HM:=Lib.hid hm
 clear hw1 hc1 hb hb' hh hh' hn hm hre k2 j2 hs0 hs1
 go_enter Tryz.func29,Tryz.ntmps29
 go_wp2_with fail
 rw[←HW.out]
 refine hsm.mono ?_
 rintro e w2 ⟨rfl,hc2⟩
 have k2:=hc2.at_ HK.out.1 HK.out.2.2.1
 have j2:=hc2.at_ HK.out.2.1 HK.out.2.2.2
 have HC2:=Lib.hid hc2
 clear hc2 hsm
 go_wp2_with fail
 go_loopw [25] (fun u wr=>∃k:Nat,k≤m∧u=.int .i64 k∧Hid (Calm w1 wr)) (fun u _=>m - (intOf u).toNat)
 case atStart=>exact⟨0,Nat.zero_le _,rfl,HC2.out⟩
 case round=>
  obtain⟨k,hk,rfl,HCr⟩:=hrel
  by_cases hlt:k < m
  ·obtain⟨bb,o,p,Ak,ck,rfl,hbb,hp,c0,c1,hst⟩:=(HH.out.calm HCr.out).get (k:=k) (by rw[HM.out];exact hlt)
   obtain⟨bb',o',p',Ak',ck',rfl,hbb',hp',d0,d1,hst'⟩:=(HH'.out.calm HCr.out).get (k:=k) (by rw[HM.out];exact hlt)
   obtain rfl:p=p':=by rw[hp] at hp';exact Option.some.inj hp'
   obtain⟨wB,hwB⟩:∃wB,wB=wr.alloc (.cells #[.slice Ak p.parts.length ck,.bool p.rest] 51):=⟨_,rfl⟩
   have hcB:Calm wr wB:=by rw[hwB];exact (Calm.refl wr).alloc _
   have hbB:bb' < wB.heap.size:=Nat.lt_of_lt_of_le hbb' hcB.size
   have t0:wB.cell? ⟨wr.heap.size,0,none⟩=some (.slice Ak p.parts.length ck):=by rw[hwB];simp[go_sem]
   have t1:wB.cell? ⟨wr.heap.size,1,none⟩=some (.bool p.rest):=by rw[hwB];simp[go_sem]
   have tlt:wr.heap.size < wB.heap.size:=by rw[hwB];simp[go_sem]
   have K1:=Lib.hid (fun q:CalmTo wB=>same_v p p.parts.length ck ck' p.rest Ak Ak' q.w ((hst.calm hcB).calm q.h) ((hst'.calm hcB).calm q.h) rfl rfl)
   have hj:=(HCr.out.trans hcB).at_ HK.out.2.1 HK.out.2.2.2
   have hjl:=Nat.lt_of_lt_of_le HK.out.2.2.2 (HCr.out.trans hcB).size
   have e0:=fun q:CalmTo wB=>q.cell t0 tlt
   have e1:=fun q:CalmTo wB=>q.cell t1 tlt
   have e2:=fun q:CalmTo wB=>q.cell (hcB.at_ d0 hbb') hbB
   have e3:=fun q:CalmTo wB=>q.cell (hcB.at_ d1 hbb') hbB
   have e4:=fun q:CalmTo wB=>q.cell hj hjl
   have HWB:=Lib.hid hwB
   have HCB:=Lib.hid (HCr.out.trans hcB)
   clear hwB hcB t0 t1 tlt hst hst' hp hp' d0 d1 hj hjl hbB
   go_wp2_with fail
   rw[←HWB.out]
   refine wp_region_calm (by kernel_rfl) (by kernel_rfl) ?_
   repeat (go_big_quiet_step ((go_at_call 28;exact calmOf (K1.out _))))
   refine wpQuiet_nil ?_
   intro w7 hc7
   have HC7:=Lib.hid (HCB.out.trans hc7)
   clear hc7 e0 e1 e2 e3 e4
   go_wp2
   go_roundw
   case rel=>exact⟨k+1,by omega,by go_num,HC7.out⟩
   case measure=>simp[intOf];omega
  ·obtain rfl:k=m:=by omega
   go_wp2
   go_ret
   exact⟨rfl,HC.out.trans HCr.out⟩
structure RegA (w:World) (A:Option Addr) (c:Nat) (HA:Option Addr) (b:Pat) (hs:List Pat):Prop where
 base:StrsR w A b.parts
 room:b.parts.length≤c
 cap:c≤9223372036854775807
 holes:PatsR w HA hs
theorem RegA.calm {w w':World} {A:Option Addr} {c:Nat} {HA:Option Addr} {b:Pat} {hs:List Pat} (h:RegA w A c HA b hs) (hc:Calm w w'):RegA w' A c HA b hs:=⟨h.base.calm hc,h.room,h.cap,h.holes.calm hc⟩
theorem results_cell_slot3 {fn:Func} {p q:Tmp} {ty:TypeId} (h:fn.results=#[.cell p ty,.tmp q]) (tmps:Array Value) (P:Program) (w:World) :
  (results fn tmps).run P w=((asAddr (tmps.getD p undef)).run P w).andThen fun a w₁=>((loadVar ty a).run P w₁).andThen fun v w₂=>.ok (.tuple #[v,tmps.getD q undef]) w₂:=results_cell_slot h tmps P w
end Go.Proofs.YtdcdabbepnahnaaGreatDoor
