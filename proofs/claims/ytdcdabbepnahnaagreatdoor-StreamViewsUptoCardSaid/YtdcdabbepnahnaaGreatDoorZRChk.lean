/- Walks: the reference's Line of streams. -/
import Derived.Deep.RegionHeld3
import Derived.Test.YtdcdabbepnahnaaGreatDoorZItself
import Derived.Test.YtdcdabbepnahnaaGreatDoorZFwdP
import Derived.Test.YtdcdabbepnahnaaGreatDoorZMapMem
import Derived.Test.YtdcdabbepnahnaaGreatDoorZCheckG
import Derived.Test.YtdcdabbepnahnaaGreatDoorZRefS
import Derived.Test.YtdcdabbepnahnaaGreatDoorZRMeetF
import Derived.Test.YtdcdabbepnahnaaGreatDoorZStrCheck
import Derived.Test.YtdcdabbepnahnaaGreatDoorZLocate
set_option linter.unusedVariables false
set_option linter.unusedSimpArgs false
namespace Go.Proofs.YtdcdabbepnahnaaGreatDoor
open Go Go.RowKit Sy
set_option maxHeartbeats 8000000 in
theorem rline8_c (x:Line) (a:Pl) (κ:Int) (np nf:Nat) (rp rf:Bool) (w:World) (hr:RuleU w a x.rule) (hsm:SmallV x.rule) (hκ:x.kind=κ) (hnp:x.path.parts.length=np) (hnf:x.frm.parts.length=nf) (hrp:x.path.rest=rp) (hrf:x.frm.rest=rf) :
  Calls Tryz.prog 56 #[.agg #[.int .i64 κ,.slice a.AL np a.cl,.bool rp,.slice a.AR nf a.cr,.bool rf]] w fun e w'=>e=.returned (.bool (lineOk x))∧Calm w w':=by
 obtain⟨w1,hw1⟩:∃w1,w1=w.alloc (.cells #[.int .i64 κ,.slice a.AL np a.cl,.bool rp,.slice a.AR nf a.cr,.bool rf] 53):=⟨_,rfl⟩
 have hc1:Calm w w1:=by rw[hw1];exact (Calm.refl w).alloc _
 have hbox:BoxL w1 w.heap.size a κ np nf rp rf:=by rw[hw1];exact BoxL.new w a κ np nf rp rf
 have hru:=hr.calm hc1
 obtain⟨v,hv⟩:∃v,patErr x.path=v:=⟨_,rfl⟩
 have KP:Hid (Calls Tryz.prog 94 #[.agg #[.slice a.AL np a.cl,.bool rp]] w1 fun e w'=>e=.returned (.int .i64 v)∧Calm w1 w'):=by
  have:=rcheckG_c x.path a.AL a.cl w1 hru.lr.toG hru.lroom hru.lcap
  rw[hnp,hrp,hv] at this
  exact this
 obtain⟨rr,hrr⟩:∃rr,ruleErr x.rule=rr:=⟨_,rfl⟩
 have KR:Hid (∀W,Calm w1 W→Calls Tryz.prog 95 #[.agg #[.bool false,.slice a.AL np a.cl,.bool rp,.slice a.AR nf a.cr,.bool rf]] W fun e w'=>e=.returned (.int .i64 rr)∧Calm W w'):=fun W hW=>by
  have h1:=rrule_c x.rule a W (hru.calm hW) hsm.small
  unfold ruleV at h1
  have e1:x.rule.left.parts.length=np:=hnp
  have e2:x.rule.right.parts.length=nf:=hnf
  have e3:x.rule.left.rest=rp:=hrp
  have e4:x.rule.right.rest=rf:=hrf
  rw[e1,e2,e3,e4,hrr] at h1
  exact h1
 have hlnp:np≤1048576:=by rw[←hnp];exact hr.lr.len
 have hlnf:nf≤1048576:=by rw[←hnf];exact hr.rr.len
 have HW:=Lib.hid hw1
 have HC:=Lib.hid hc1
 have HB:=Lib.hid hbox
 have HRU:=Lib.hid hru
 have HX:=Lib.hid (And.intro hκ (And.intro hnp (And.intro hnf (And.intro hrp hrf))))
 have HV:=Lib.hid hv
 have HR:=Lib.hid hrr
 have b0:=hbox.c0
 have b1:=hbox.c1
 have b2:=hbox.c2
 have b3:=hbox.c3
 have b4:=hbox.c4
 rw[hw1] at b0 b1 b2 b3 b4
 have hlk:Hid (lineOk x=(v == 0 && x.path.parts.getD 0 [] == viewN && (if κ=3 then rr == 0 && x.frm.parts.getD 0 [] != viewN else (κ == 1 || κ == 2 || κ == 4) && x.frm.parts.isEmpty && !rf))):=by
  show _=_
  unfold lineOk
  rw[hv,hrr,hκ,hrf]
 clear hw1 hc1 hbox hr hru hκ hnp hnf hrp hrf hv hrr hsm
 by_cases hk:1≤κ∧κ≤4
 ·obtain⟨hk1,hk4⟩:=hk
  by_cases hv0:v=0
  ·subst hv0
   obtain⟨b,o,l,hA,hb,hl,hll,hcell⟩:=HRU.out.lr.get (k:=0) (by have:=(patErr_form HV.out).1;exact this)
   obtain⟨AL,cl,AR,cr⟩:=a
   simp only at hA
   subst hA
   rw[Nat.add_zero] at hcell
   have hnp0:0 < np:=by have:=(patErr_form HV.out).1;rw[HX.out.2.1] at this;exact this
   have hl2:x.path.parts.getD 0 []=l:=by
    have e:x.path.parts[0]?=some l:=hl
    simp[List.getD_eq_getElem?_getD,e]
   obtain⟨z,hz⟩:∃z,x.frm.parts.getD 0 []=z:=⟨_,rfl⟩
   have he:x.frm.parts.isEmpty=decide (nf=0):=by
    rw[←HX.out.2.2.1]
    cases x.frm.parts <;> simp
   have hlk2:Hid (lineOk x=(l == [118,105,101,119] && (if κ=3 then rr == 0 && z != [118,105,101,119] else (κ == 1 || κ == 2 || κ == 4) && decide (nf=0) && !rf))):=by
    show _=_
    rw[hlk.out,hl2,hz,he]
    rfl
   have HZ:=Lib.hid hz
   clear hlk hl2 hz he hl hll
   by_cases h3:κ=3
   ·subst h3
    simp only[if_true] at hlk2
    by_cases h4:rr=0
    ·subst h4
     obtain⟨b',o',l',hA',hb',hl',hll',hcell'⟩:=HRU.out.rr.get (k:=0) (by have:=(patErr_form (ruleErr_twin.1 HR.out).rp).1;exact this)
     simp only at hA'
     subst hA'
     rw[Nat.add_zero] at hcell'
     have hnf0:0 < nf:=by have:=(patErr_form (ruleErr_twin.1 HR.out).rp).1;rw[show x.rule.right.parts.length=nf from HX.out.2.2.1] at this;exact this
     obtain rfl:z=l':=by
      have e:x.frm.parts[0]?=some l':=hl'
      rw[←HZ.out]
      simp[List.getD_eq_getElem?_getD,e]
     clear hl' hll'
     go_enter Tryz.func56,Tryz.ntmps56
     go_wp2_with (first
      |(go_at_call 94;rw[←HW.out];refine KP.out.mono ?_;rintro e w2 ⟨rfl,hc2⟩;have d0:=(HB.out.calm hc2).c0;have d1:=(HB.out.calm hc2).c1;have d2:=(HB.out.calm hc2).c2;have d3:=(HB.out.calm hc2).c3;have d4:=(HB.out.calm hc2).c4;have dl:=Calm.at_ hc2 hcell hb)
      |(go_at_call 95;refine (KR.out w2 hc2).mono ?_;rintro e w4 ⟨rfl,hc4⟩;have hc24:=hc2.trans hc4;have z0:=(HB.out.calm hc24).c0;have z1:=(HB.out.calm hc24).c1;have z2:=(HB.out.calm hc24).c2;have z3:=(HB.out.calm hc24).c3;have z4:=(HB.out.calm hc24).c4;have zl:=Calm.at_ hc24 hcell' hb'))
     all_goals first
      |(go_ret;exact⟨ret_bool (by rw[hlk2.out];first | (simp[*];done) | (simp_all;done) | (simp_all [bne];done)),HC.out.trans hc2⟩)
      |(go_ret;exact⟨ret_bool (by rw[hlk2.out];first | (simp[*];done) | (simp[*,bne];done) | (simp_all [bne];done)),HC.out.trans hc24⟩)
    ·have hrb:(rr == 0)=false:=by simpa using h4
     go_enter Tryz.func56,Tryz.ntmps56
     go_wp2_with (first
      |(go_at_call 94;rw[←HW.out];refine KP.out.mono ?_;rintro e w2 ⟨rfl,hc2⟩;have d0:=(HB.out.calm hc2).c0;have d1:=(HB.out.calm hc2).c1;have d2:=(HB.out.calm hc2).c2;have d3:=(HB.out.calm hc2).c3;have d4:=(HB.out.calm hc2).c4;have dl:=Calm.at_ hc2 hcell hb)
      |(go_at_call 95;refine (KR.out w2 hc2).mono ?_;rintro e w4 ⟨rfl,hc4⟩;have hc24:=hc2.trans hc4))
     all_goals first
      |(go_ret;exact⟨ret_bool (by rw[hlk2.out];first | (simp[*];done) | (simp_all;done) | (simp_all [bne];done)),HC.out.trans hc2⟩)
      |(go_ret;exact⟨ret_bool (by rw[hlk2.out];first | (simp[*];done) | (simp[*,bne];done) | (simp_all [bne];done)),HC.out.trans hc24⟩)
   ·have h3b:(κ == 3)=false:=by simpa using h3
    have hk3:(κ == 1 || κ == 2 || κ == 4)=true:=by
     have:κ=1∨κ=2∨κ=4:=by omega
     rcases this with rfl | rfl | rfl <;> rfl
    rw[if_neg h3,hk3,Bool.true_and] at hlk2
    have hd1:decide (κ < 1)=false:=by simp;omega
    have hd4:decide ((4:Int) < κ)=false:=by simp;omega
    have hn1:¬κ < 1:=by omega
    have hn4:¬(4:Int) < κ:=by omega
    clear hk3
    go_enter Tryz.func56,Tryz.ntmps56
    go_wp2_with (go_at_call 94;rw[←HW.out];refine KP.out.mono ?_;rintro e w2 ⟨rfl,hc2⟩;have d0:=(HB.out.calm hc2).c0;have d1:=(HB.out.calm hc2).c1;have d2:=(HB.out.calm hc2).c2;have d3:=(HB.out.calm hc2).c3;have d4:=(HB.out.calm hc2).c4;have dl:=Calm.at_ hc2 hcell hb)
    all_goals first
     |(go_ret;exact⟨ret_bool (by rw[hlk2.out];first | (simp[*];done) | (simp_all;done) | (simp_all [bne];done)),HC.out.trans hc2⟩)
  ·have hvb:(v != 0)=true:=by simpa using hv0
   have hd1:decide (κ < 1)=false:=by simp;omega
   have hd4:decide ((4:Int) < κ)=false:=by simp;omega
   have hn1:¬κ < 1:=by omega
   have hn4:¬(4:Int) < κ:=by omega
   have hE:Hid (lineOk x=false):=by
    show _=_
    rw[hlk.out]
    have:(v == 0)=false:=by simpa using hv0
    rw[this]
    rfl
   clear hlk hv0
   go_enter Tryz.func56,Tryz.ntmps56
   go_wp2_with (go_at_call 94;rw[←HW.out];refine KP.out.mono ?_;rintro e w2 ⟨rfl,hc2⟩)
   go_ret
   exact⟨ret_bool hE.out.symm,HC.out.trans hc2⟩
 ·have hE:Hid (lineOk x=false):=by
   show _=_
   rw[hlk.out]
   have h1:κ≠1:=fun e=>hk (by omega)
   have h2:κ≠2:=fun e=>hk (by omega)
   have h3:κ≠3:=fun e=>hk (by omega)
   have h4:κ≠4:=fun e=>hk (by omega)
   simp[h1,h2,h3,h4]
  clear hlk
  by_cases hk1:κ < 1
  ·go_enter Tryz.func56,Tryz.ntmps56
   go_wp2
   go_ret
   exact⟨ret_bool hE.out.symm,HW.out ▸ HC.out⟩
  ·have hk4:4 < κ:=by omega
   clear hk
   go_enter Tryz.func56,Tryz.ntmps56
   go_wp2
   go_ret
   exact⟨ret_bool hE.out.symm,HW.out ▸ HC.out⟩
theorem rmeet_v8 (p q:Pat) (A A':Option Addr) (n m c c':Nat) (re rf v:Bool) (w:World) (hp:PatA w A c p) (hq:PatA w A' c' q) (ep:patErr p=0) (eq:patErr q=0) (hn:p.parts.length=n) (hm:q.parts.length=m) (hre:p.rest=re) (hrf:q.rest=rf) (hv:(meetP q p).isSome=v) :
  Calls Tryz.prog 97 #[.agg #[.slice A n c,.bool re],.agg #[.slice A' m c',.bool rf]] w fun e w'=>(∃A2 n2 c2 r2,e=.returned (.tuple #[.agg #[.slice A2 n2 c2,.bool r2],.bool v]))∧Calm w w':=by
 rw[meetP_comm,meetP,if_pos ⟨ep,eq⟩] at hv
 subst hn hm hre hrf hv
 refine (rmeet_c p q A A' c c' w hp hq ep eq).mono fun e w' ⟨h1,h2⟩=>⟨?_,h2⟩
 rcases h1 with⟨m',A2,c2,h3,h4,h5⟩ | ⟨h3,h4⟩
 ·rw[h3]
  exact⟨A2,_,c2,_,h4⟩
 ·rw[h3]
  exact⟨none,0,0,false,h4⟩
theorem patA_of {w:World} {A:Option Addr} {c:Nat} {p:Pat} (h:PatU w A c p) (h1:p.parts.length≤200) (h2:∀x∈p.parts,x.length≤250):PatA w A c p:=
 ⟨h.r.toR (by omega) (fun l hl=>by have:=h2 l hl;omega),h.room,h.cap⟩
def SmP (l:List NewP):Prop:=∀y∈l,y.p.parts.length≤200∧∀x∈y.p.parts,x.length≤250
theorem SmP.snoc {l:List NewP} {y:NewP} (h:SmP l) (h1:y.p.parts.length≤200) (h2:∀x∈y.p.parts,x.length≤250):SmP (l++[y]):=fun z hz=>by
 rcases List.mem_append.1 hz with hz | hz
 ·exact h z hz
 ·rw[List.mem_singleton] at hz
  subst hz
  exact⟨h1,h2⟩
def strV (ss:List Strm) (i:Nat):Option Nat→Bool
 |none=>false
 |some j=>topI ss j == topI ss i
theorem sameTree_ref {ss:List Strm} (ho:∀i,i < ss.length→ownErr ss i=0) (hp:∀i,i < ss.length→parErr ss i=0) {i j:Nat} (hi:i < ss.length) (hj:j < ss.length):(refRoot ss (strm ss j).name == refRoot ss (strm ss i).name)=(topI ss j == topI ss i):=by
 rw[Bool.eq_iff_iff,beq_iff_eq,beq_iff_eq]
 exact refRoot_same ho hp hi hj
set_option maxRecDepth 100000 in
set_option maxHeartbeats 16000000 in
theorem rimports_c (ss:List Strm) (A:Option Addr) (n c i:Nat) (w:World) (hs:StrmsU w A ss) (hn:ss.length=n) (hle:n≤1000) (hi:i < n) (ho:∀i,i < ss.length→ownErr ss i=0) (hp:∀i,i < ss.length→parErr ss i=0) (hsm:SmallSS ss) :
  Calls Tryz.prog 58 #[.slice A n c,.int .i64 i] w fun e w'=>e=.returned (.bool (!badImp ss i))∧Calm w w':=by
 obtain⟨b,o,s0,PA0,pc0,rfl,hb,hr0,hat0,hsu0⟩:=hs.get (k:=i) (by rw[hn];exact hi)
 have HA0:=Lib.hid hat0
 have hs0:=strm_at hr0
 obtain⟨nm,hnm⟩:∃nm,s0.name=nm:=⟨_,rfl⟩
 have hcn:=hat0.c0
 rw[hnm] at hcn
 have hnl:=hsu0.name
 rw[hnm] at hnl
 have hil:i < ss.length:=by rw[hn];exact hi
 have hnm2:(strm ss i).name=nm:=by rw[hs0,hnm]
 have hk:=ranc_c ss nm (some ⟨b,o,none⟩) n c w hs hn hle
 rw[←hnm2,refAncs_own ho hp hil,hnm2] at hk
 obtain⟨l0,hl⟩:∃l,above ss i=l:=⟨_,rfl⟩
 have hel:Hid (∀p∈l0,p < n):=fun p hp=>by
  rw[←hn]
  exact above_lt (i:=i) (by rw[hl];exact hp)
 obtain⟨m,hm⟩:∃m,l0.length=m:=⟨_,rfl⟩
 unfold NamesEnd at hk
 rw[hl,List.length_map,hm] at hk
 have hmn:m≤n:=by rw[←hm,←hl,←hn];exact aboveN_len _ _
 have hE:Hid ((!badImp ss i)=!badFrom ss i (othersOf ss l0) (strm ss i).paths):=by
  show _=_
  unfold badImp
  rw[hl]
 have KF:Hid (∀W x,Calm w W→Calls Tryz.prog 25 #[.slice (some ⟨b,o,none⟩) n c,.string (bs x)] W fun e w'=>e=.returned (.int .i64 (oZ (findI ss x)))∧Calm W w'):=fun W x hW=>rfind_c ss x _ n c W (hs.calm hW) hn
 have KR:Hid (∀W x,Calm w W→Calls Tryz.prog 96 #[.slice (some ⟨b,o,none⟩) n c,.string (bs x)] W fun e w'=>e=.returned (.string (bs (refRoot ss x)))∧Calm W w'):=fun W x hW=>rroot_c ss x _ n c W (hs.calm hW) hn hle
 have HG:Hid (∀j,j < n→(∀x∈(strm ss j).paths,lineOk x=true)∧(strm ss j).paths.length≤12):=fun j hj=>by
  obtain⟨_,_,_,_,h5,h6⟩:=ownErr_zero (ho j (by rw[hn];exact hj))
  exact⟨List.all_eq_true.1 h5,h6⟩
 have HOwn:=Lib.hid ho
 have HPar:=Lib.hid hp
 have HSm:=Lib.hid hsm
 have HM:=Lib.hid hm
 have HS:=Lib.hid hs
 have HN:=Lib.hid hn
 have HB0:=Lib.hid hb
 have HCN:=Lib.hid hcn
 have HNm2:=Lib.hid hnm2
 clear hs hl hm ho hp hsm hr0 hat0 hsu0 hs0 hnm hn hil hnm2
 go_enter Tryz.func58,Tryz.ntmps58
 go_wp2_with (go_at_call 57;refine hk.mono ?_;rintro e w1 ⟨⟨VA,vc,rfl,hia⟩,hc1⟩)
 have HI:=Lib.hid hia.1
 have HC1:=Lib.hid hc1
 clear hia hc1 hk hcn hb
 go_loopw [5,25] (fun v q wr=>∃(k:Nat) (l:List NewP),k≤m∧q=.int .i64 k∧l.length≤k * 12∧Hid (Oth w1 wr v l)∧Hid (l.map (·.p)=othersOf ss (l0.take k))∧Hid (SmP l)) (fun _ q _=>m - (intOf q).toNat)
 case atStart=>exact⟨0,[],Nat.zero_le _,rfl,by simp,⟨OwnX.nil (Calm.refl _),fun y hy=>by cases hy⟩,rfl,fun y hy=>by cases hy⟩
 case round=>
  obtain⟨k,l,hk,rfl,hll,HO,HL,HSP⟩:=hrel
  by_cases hlt:k < m
  ·obtain⟨p,hp⟩:∃x,l0[k]?=some x:=⟨_,List.getElem?_eq_getElem (by rw[HM.out];exact hlt)⟩
   obtain⟨g,og,y,rfl,hg,hy,hyl,hcy⟩:=(HI.out.calm HO.out.calm).get (k:=k) (by rw[List.length_map,HM.out];exact hlt)
   have hpn:p < n:=hel.out p (List.mem_of_getElem? hp)
   have hfy:findI ss y=some p:=by
    rw[List.getElem?_map,hp] at hy
    obtain rfl:=Option.some.inj hy
    exact find_own HOwn.out (by rw[HN.out];exact hpn)
   have K1:Hid (∀W,Calm w W→Calls Tryz.prog 25 #[.slice (some ⟨b,o,none⟩) n c,.string (bs y)] W fun e w'=>e=.returned (.int .i64 (p:Nat))∧Calm W w'):=fun W hW=>by
    have:=KF.out W y hW
    rw[hfy] at this
    exact this
   have HP:=Lib.hid hp
   obtain⟨b9,o9,s,PA,pc,e9,hb,hr,hsat,hsu⟩:=HS.out.get (k:=p) (by rw[HN.out];exact hpn)
   obtain⟨rfl,rfl⟩:b=b9∧o=o9:=by simpa using e9
   clear e9
   have c2:=Calm.at_ (HC1.out.trans HO.out.calm) hsat.c2 hb
   obtain⟨np,hnp⟩:∃np,s.paths.length=np:=⟨_,rfl⟩
   rw[hnp] at c2
   have hss:=strm_at hr
   have hnp12:np≤12:=by rw[←hnp,←hss];exact (HG.out p hpn).2
   have HGp:Hid (∀x∈s.paths,lineOk x=true):=by show ∀_,_;rw[←hss];exact (HG.out p hpn).1
   have HSx:Hid (∀x∈s.paths,SmallV x.rule):=HSm.out s (List.mem_of_getElem? hr)
   have HNp:=Lib.hid hnp
   have HLs:=Lib.hid (hsu.lines.calm HC1.out)
   have HSS:=Lib.hid hss
   have HC2w:=Lib.hid (And.intro hsat.c2 hb)
   clear hp hr hsat hsu hss hy hfy
   go_wp2_with (go_at_call 25;refine (K1.out _ (HC1.out.trans HO.out.calm)).mono ?_;rintro e w2 ⟨rfl,hc2⟩;have c2:=Calm.at_ ((HC1.out.trans HO.out.calm).trans hc2) HC2w.out.1 HC2w.out.2;rw[HNp.out] at c2)
   have HO1:=Lib.hid (HO.out.to hc2)
   go_loopw [5,37] (fun v q wr=>∃(k2:Nat) (l2:List NewP),k2≤np∧q=.int .i64 k2∧l2.length≤k * 12+k2∧Hid (Oth w1 wr v l2)∧Hid (l2.map (·.p)=othersOf ss (l0.take k)++impsOf (s.paths.take k2))∧Hid (SmP l2)) (fun _ q _=>np - (intOf q).toNat)
   case atStart=>exact⟨0,l,Nat.zero_le _,rfl,by omega,HO1.out,by show _=_;rw[HL.out,List.take_zero];show _=_++[];rw[List.append_nil],HSP.out⟩
   case round=>
    obtain⟨k2,l2,hk2,rfl,hl2,HO2,HL2,HSP2⟩:=hrel
    by_cases hlt2:k2 < np
    ·obtain⟨b',o',x,a,rfl,hb',hx,hxa,hru⟩:=HLs.out.get (k:=k2) (by rw[HNp.out];exact hlt2)
     have hxa:=hxa.calm HO2.out.calm hb'
     have d0:=hxa.c0
     have d1:=hxa.c1
     have d2:=hxa.c2
     have d3:=hxa.c3
     have d4:=hxa.c4
     obtain⟨κ,h0⟩:∃κ,x.kind=κ:=⟨_,rfl⟩
     obtain⟨npp,h1⟩:∃npp,x.path.parts.length=npp:=⟨_,rfl⟩
     obtain⟨nf,h2⟩:∃nf,x.frm.parts.length=nf:=⟨_,rfl⟩
     obtain⟨rp,h3⟩:∃rp,x.path.rest=rp:=⟨_,rfl⟩
     obtain⟨rf,h4⟩:∃rf,x.frm.rest=rf:=⟨_,rfl⟩
     rw[h0] at d0
     rw[h1] at d1
     rw[h3] at d2
     rw[h2] at d3
     rw[h4] at d4
     have HX:=Lib.hid hx
     have HRU:=Lib.hid hru
     have HXf:=Lib.hid (And.intro h0 (And.intro h2 h4))
     have hbox:=enc_new (wr.alloc (.cells #[.int .i64 κ,.slice a.AL npp a.cl,.bool rp,.slice a.AR nf a.cr,.bool rf] 53)) ⟨a.AR,a.cr,x.frm⟩ (n:=wr.heap.size+1) (by simp) h2 h4
     have HBx:=Lib.hid hbox
     clear hxa hru h0 h1 h2 h3 h4 hx hbox
     by_cases hκ:κ=3
     ·subst hκ
      go_wp2_with (at_builtin;refine wpList_append_p rfl (.tmp 44) (.tmp 47) rfl w1 _ l2 rfl (HO2.out.own.to (((Calm.refl wr).alloc _).alloc _)) (wr.heap.size+1) 1 rfl ⟨a.AR,a.cr,x.frm⟩ HBx.out (by omega) ?_;intro v5 w5 hown5 hg5)
      go_roundw
      case rel=>
       have hsv:=HSx.out x (List.mem_of_getElem? HX.out)
       refine⟨k2+1,l2++[⟨a.AR,a.cr,x.frm⟩],by omega,by go_num,by rw[List.length_append];simp;omega,⟨hown5,fun y hy=>?_⟩,?_,HSP2.out.snoc hsv.rp hsv.rs⟩
       ·rcases List.mem_append.1 hy with hy | hy
        ·exact HO2.out.each y hy
        ·rw[List.mem_singleton] at hy
         subst hy
         exact⟨frm_pat HRU.out,(lineOk_import (HGp.out x (List.mem_of_getElem? HX.out)) HXf.out.1).2.2⟩
       ·show _=_
        rw[List.map_append,HL2.out,impsOf_yes HX.out HXf.out.1,List.append_assoc]
        rfl
      case measure=>simp[intOf];omega
     ·have hκb:(κ == 3)=false:=by simpa using hκ
      have HK:=Lib.hid hκ
      clear hκ
      go_wp2_with fail
      go_roundw
      case rel=>
       refine⟨k2+1,l2,by omega,by go_num,by omega,HO2.out.to ((Calm.refl wr).alloc _),?_,HSP2.out⟩
       show _=_
       rw[HL2.out,impsOf_no HX.out (by rw[HXf.out.1];exact HK.out)]
      case measure=>simp[intOf];omega
    ·obtain rfl:k2=np:=by omega
     go_wp2_with fail
     go_roundw
     case rel=>
      refine⟨k+1,l2,by omega,by go_num,by omega,HO2.out,?_,HSP2.out⟩
      show _=_
      rw[HL2.out,othersOf_succ HP.out,HSS.out,List.take_of_length_le (l:=s.paths) (by rw[HNp.out];exact Nat.le_refl _)]
     case measure=>simp[intOf];omega
  ·obtain rfl:k=m:=by omega
   have HLk:Hid (l.map (·.p)=othersOf ss l0):=by
    show _=_
    rw[HL.out,List.take_of_length_le (by rw[HM.out];exact Nat.le_refl _)]
   obtain⟨b9,o9,s,PA,pc,e9,hb,hr,hsat,hsu⟩:=HS.out.get (k:=i) (by rw[HN.out];exact hi)
   obtain⟨rfl,rfl⟩:b=b9∧o=o9:=by simpa using e9
   clear e9
   have c2:=Calm.at_ (HC1.out.trans HO.out.calm) hsat.c2 hb
   obtain⟨np,hnp⟩:∃np,s.paths.length=np:=⟨_,rfl⟩
   rw[hnp] at c2
   have hss:=strm_at hr
   have hnp12:np≤12:=by rw[←hnp,←hss];exact (HG.out i hi).2
   have HGp:Hid (∀x∈s.paths,lineOk x=true):=by show ∀_,_;rw[←hss];exact (HG.out i hi).1
   have HSx:Hid (∀x∈s.paths,SmallV x.rule):=HSm.out s (List.mem_of_getElem? hr)
   have HNp:=Lib.hid hnp
   have HLs:=Lib.hid (hsu.lines.calm HC1.out)
   have hE2:Hid ((!badImp ss i)=!badFrom ss i (othersOf ss l0) s.paths):=by rw[←hss];exact hE
   clear hr hsat hsu hnp hss hE
   go_wp2_with fail
   go_loopw [5,57] (fun v q wr=>∃(k3:Nat) (l3:List NewP),k3≤np∧q=.int .i64 k3∧l3.length≤k * 12+k3∧Hid (Oth w1 wr v l3)∧Hid (badFrom ss i (othersOf ss l0) s.paths=badFrom ss i (l3.map (·.p)) (s.paths.drop k3))∧Hid (SmP l3)) (fun _ q _=>np - (intOf q).toNat)
   case atStart=>exact⟨0,l,Nat.zero_le _,rfl,by omega,HO.out,by show _=_;rw[HLk.out];rfl,HSP.out⟩
   case round=>
    obtain⟨k3,l3,hk3,rfl,hl3,HO30,HB3,HSP3⟩:=hrel
    obtain⟨wq,rfl⟩:∃wq,wq=wr:=⟨_,rfl⟩
    obtain⟨OA,oc,rfl,hosh⟩:=HO30.out.shape
    obtain⟨L,hL⟩:∃L,l3.length=L:=⟨_,rfl⟩
    have HO3:Hid (Oth w1 wq (.slice OA L oc) l3):=by rw[←hL];exact HO30
    rw[hL] at hl3 hosh ⊢
    have HOS:=Lib.hid hosh
    have HLL:=Lib.hid hL
    clear HO30 hosh hL
    by_cases hlt3:k3 < np
    ·obtain⟨b',o',x,a,rfl,hb',hx,hxa,hru⟩:=HLs.out.get (k:=k3) (by rw[HNp.out];exact hlt3)
     have hxa:=hxa.calm HO3.out.calm hb'
     have d0:=hxa.c0
     have d1:=hxa.c1
     have d2:=hxa.c2
     have d3:=hxa.c3
     have d4:=hxa.c4
     obtain⟨κ,h0⟩:∃κ,x.kind=κ:=⟨_,rfl⟩
     obtain⟨npp,h1⟩:∃npp,x.path.parts.length=npp:=⟨_,rfl⟩
     obtain⟨nf,h2⟩:∃nf,x.frm.parts.length=nf:=⟨_,rfl⟩
     obtain⟨rp,h3⟩:∃rp,x.path.rest=rp:=⟨_,rfl⟩
     obtain⟨rf,h4⟩:∃rf,x.frm.rest=rf:=⟨_,rfl⟩
     rw[h0] at d0
     rw[h1] at d1
     rw[h3] at d2
     rw[h2] at d3
     rw[h4] at d4
     have HX:=Lib.hid hx
     have HRU:=Lib.hid hru
     have HXf:=Lib.hid (And.intro h0 (And.intro h2 h4))
     clear hxa hru h0 h1 h2 h3 h4 hx
     by_cases hκ:κ=3
     ·subst hκ
      have hlok:=lineOk_import (HGp.out x (List.mem_of_getElem? HX.out)) HXf.out.1
      have hsv:=HSx.out x (List.mem_of_getElem? HX.out)
      obtain⟨bk,ok,z,hA,hbk,hz,hzl,hcell⟩:=HRU.out.rr.get (k:=0) (by have:=(patErr_form hlok.2.2).1;exact this)
      obtain⟨AL,cl,AR,cr⟩:=a
      simp only at hA
      subst hA
      rw[Nat.add_zero] at hcell
      have hnf0:0 < nf:=by have:=(patErr_form hlok.2.2).1;rw[HXf.out.2.1] at this;exact this
      have hz2:x.frm.parts.getD 0 []=z:=by
       have e:x.frm.parts[0]?=some z:=hz
       simp[List.getD_eq_getElem?_getD,e]
      have HZ:=Lib.hid hz2
      have HEp:=Lib.hid hlok.2.2
      have hfrm:=Lib.hid (frm_pat HRU.out)
      have HSV:=Lib.hid hsv
      obtain⟨wB,hwB⟩:∃wB,wB=wq.alloc (.cells #[.int .i64 3,.slice AL npp cl,.bool rp,.slice (some ⟨bk,ok,none⟩) nf cr,.bool rf] 53):=⟨_,rfl⟩
      have hcB:Calm wq wB:=by rw[hwB];exact (Calm.refl wq).alloc _
      have hbx:BoxL wB wq.heap.size ⟨AL,cl,some ⟨bk,ok,none⟩,cr⟩ 3 npp nf rp rf:=by rw[hwB];exact BoxL.new wq ⟨AL,cl,some ⟨bk,ok,none⟩,cr⟩ 3 npp nf rp rf
      have hcw:Calm w1 wB:=HO3.out.calm.trans hcB
      have HWB:=Lib.hid hwB
      have HBX:=Lib.hid hbx
      have HCB:=Lib.hid hcB
      have HCW:=Lib.hid hcw
      have b0:=hbx.c0
      have b3:=hbx.c3
      have bz:=Calm.at_ hcw hcell hbk
      rw[hwB] at b0 b3 bz
      obtain⟨fi,hfi⟩:∃fi,findI ss z=fi:=⟨_,rfl⟩
      obtain⟨zf,hzf⟩:∃zf,oZ fi=zf:=⟨_,rfl⟩
      have K1:Hid (∀W,Calm w W→Calls Tryz.prog 25 #[.slice (some ⟨b,o,none⟩) n c,.string (bs z)] W fun e w'=>e=.returned (.int .i64 zf)∧Calm W w'):=fun W hW=>by
       have:=KF.out W z hW
       rw[hfi,hzf] at this
       exact this
      have HFi:=Lib.hid hfi
      have HZf:=Lib.hid hzf
      have hST:Hid (sameTree ss i z=strV ss i fi):=by
       show _=_
       rw[←HFi.out]
       rfl
      clear hlok hz hz2 hwB hcB hbx hcw hsv hfi hzf
      simp only at b3
      go_wp2_with (go_at_call 25;rw[←HWB.out];refine (K1.out wB (HC1.out.trans HCW.out)).mono ?_;rintro e w7 ⟨rfl,hc7⟩)
      clear b0 b3 bz
      have HC7:=Lib.hid hc7
      clear hc7
      cases fi with
      |none=>
       obtain rfl:-1=zf:=HZf.out
       have hSTf:Hid (sameTree ss i (x.frm.parts.getD 0 [])=false):=by rw[HZ.out];exact hST
       refine wp_region_calm (by kernel_rfl) (by kernel_rfl) ?_
       repeat (go_big_quiet_step (fail))
       refine wpQuiet_nil ?_
       intro w8 hc8
       have HCx:Hid (Calm wB w8):=HC7.out.trans hc8
       clear hc8
       have HO4:Hid (Oth w1 w8 (.slice OA L oc) l3):=HO3.out.to (HCB.out.trans HCx.out)
       go_wp2_with fail
       go_loopw [92] (fun q wr=>∃k4:Nat,k4≤L∧q=.int .i64 k4∧Hid (Calm w8 wr)∧Hid (∀j y,j < k4→l3[j]?=some y→meetP x.frm y.p=none)) (fun q _=>L - (intOf q).toNat)
       case atStart=>exact⟨0,Nat.zero_le _,rfl,Calm.refl _,fun j y hj=>absurd hj (Nat.not_lt_zero _)⟩
       case round=>
        obtain⟨k4,hk4,rfl,HC4,HG4⟩:=hrel
        have z3:=(HBX.out.calm (HCx.out.trans HC4.out)).c3
        have z4:=(HBX.out.calm (HCx.out.trans HC4.out)).c4
        simp only at z3
        by_cases hlt4:k4 < L
        ·obtain⟨y,hy⟩:∃y,l3[k4]?=some y:=⟨_,List.getElem?_eq_getElem (by rw[HLL.out];exact hlt4)⟩
         obtain⟨g,rfl,hg,hcl⟩:=HOS.out (by omega)
         have hca:Calm wq wr:=HCB.out.trans (HCx.out.trans HC4.out)
         have y0:=Calm.at_ hca (hcl k4 y hy).1 hg
         have y1:=Calm.at_ hca (hcl k4 y hy).2 hg
         obtain⟨ny,hny⟩:∃ny,y.p.parts.length=ny:=⟨_,rfl⟩
         obtain⟨ry,hry⟩:∃ry,y.p.rest=ry:=⟨_,rfl⟩
         rw[hny] at y0
         rw[hry] at y1
         obtain⟨vm,hvm⟩:∃vm,(meetP x.frm y.p).isSome=vm:=⟨_,rfl⟩
         have hye:=HO3.out.each y (List.mem_of_getElem? hy)
         have hys:=HSP3.out y (List.mem_of_getElem? hy)
         have KM:Hid (∀W,Calm wr W→Calls Tryz.prog 97 #[.agg #[.slice y.A ny y.c,.bool ry],.agg #[.slice (some ⟨bk,ok,none⟩) nf cr,.bool rf]] W fun e w'=>(∃A2 n2 c2 r2,e=.returned (.tuple #[.agg #[.slice A2 n2 c2,.bool r2],.bool vm]))∧Calm W w'):=fun W hW=>by
          have hcw2:Calm w1 W:=(HO3.out.calm.trans hca).trans hW
          exact rmeet_v8 y.p x.frm _ _ ny nf y.c cr ry rf vm W (patA_of (hye.1.calm hcw2) hys.1 hys.2) (patA_of (hfrm.out.calm hcw2) HSV.out.rp HSV.out.rs) hye.2 HEp.out hny HXf.out.2.1 hry HXf.out.2.2 hvm
         have HY:=Lib.hid hy
         have hcA:Calm wr (wr.alloc (.cells #[.slice y.A ny y.c,.bool ry] 51)):=(Calm.refl wr).alloc _
         have z5:=(HBX.out.calm ((HCx.out.trans HC4.out).trans hcA)).c3
         have z6:=(HBX.out.calm ((HCx.out.trans HC4.out).trans hcA)).c4
         simp only at z5
         clear z3 z4 hcA
         have HVM:=Lib.hid hvm
         clear hy hcl hny hry hvm hye hys
         cases vm with
         |true=>
          have hE3:Hid ((!badImp ss i)=false):=by
           show _=_
           rw[hE2.out,HB3.out,badFrom_yes HX.out HXf.out.1]
           have:(l3.map (·.p)).any (fun o=>(meetP x.frm o).isSome)=true:=List.any_eq_true.2 ⟨y.p,List.mem_map.2 ⟨y,List.mem_of_getElem? HY.out,rfl⟩,HVM.out⟩
           rw[this]
           simp
          go_wp2_with (go_at_call 97;refine (KM.out _ ((Calm.refl _).alloc _)).mono ?_;rintro e w5 ⟨⟨A5,n5,c5,r5,rfl⟩,hc5⟩)
          go_ret
          exact⟨ret_bool hE3.out.symm,HC1.out.trans ((HO3.out.calm.trans hca).trans ((((Calm.refl _).alloc _).trans hc5).alloc _))⟩
         |false=>
          go_wp2_with (go_at_call 97;refine (KM.out _ ((Calm.refl _).alloc _)).mono ?_;rintro e w5 ⟨⟨A5,n5,c5,r5,rfl⟩,hc5⟩)
          go_roundw
          case rel=>exact⟨k4+1,by omega,by go_num,HC4.out.trans ((((Calm.refl _).alloc _).trans hc5).alloc _),snoc_at HY.out (by simpa using HVM.out) HG4.out⟩
          case measure=>simp[intOf];omega
        ·obtain rfl:k4=L:=by omega
         have HBx:=Lib.hid (enc_new wr ⟨some ⟨bk,ok,none⟩,cr,x.frm⟩ rfl HXf.out.2.1 HXf.out.2.2)
         go_wp2_with (at_builtin;refine wpList_append_p rfl (.tmp 105) (.tmp 108) rfl w1 _ l3 rfl (HO4.out.own.to (HC4.out.trans ((Calm.refl wr).alloc _))) wr.heap.size 1 rfl ⟨some ⟨bk,ok,none⟩,cr,x.frm⟩ HBx.out (by rw[HLL.out];omega) ?_;intro v5 w5 hown5 hg5)
         go_roundw
         case rel=>
          refine⟨k3+1,l3++[⟨some ⟨bk,ok,none⟩,cr,x.frm⟩],by omega,by go_num,by rw[List.length_append,HLL.out];simp;omega,⟨hown5,fun y hy=>?_⟩,?_,HSP3.out.snoc HSV.out.rp HSV.out.rs⟩
          ·rcases List.mem_append.1 hy with hy | hy
           ·exact HO3.out.each y hy
           ·rw[List.mem_singleton] at hy
            subst hy
            exact⟨hfrm.out,HEp.out⟩
          ·show _=_
           have hany:(l3.map (·.p)).any (fun o=>(meetP x.frm o).isSome)=false:=by
            rw[List.any_eq_false]
            intro o ho
            obtain⟨y,hy,rfl⟩:=List.mem_map.1 ho
            simp[all_to HLL.out HG4.out y hy]
           rw[HB3.out,badFrom_yes HX.out HXf.out.1,hSTf.out,hany,List.map_append]
           simp
         case measure=>simp[intOf];omega
      |some j=>
       obtain rfl:((j:Nat):Int)=zf:=HZf.out
       have hj:j < n:=by rw[←HN.out];exact findI_lt HFi.out
       obtain⟨b9,o9,sj,PAj,pcj,e9,hbj,hrj,hsatj,hsuj⟩:=HS.out.get (k:=j) (by rw[HN.out];exact hj)
       obtain⟨rfl,rfl⟩:b=b9∧o=o9:=by simpa using e9
       clear e9
       obtain⟨nj,hnj⟩:∃nj,sj.name=nj:=⟨_,rfl⟩
       have hcj:=hsatj.c0
       rw[hnj] at hcj
       have hnj2:(strm ss j).name=nj:=by rw[strm_at hrj,hnj]
       obtain⟨rj,hrj2⟩:∃rj,refRoot ss nj=rj:=⟨_,rfl⟩
       obtain⟨ri,hri⟩:∃ri,refRoot ss nm=ri:=⟨_,rfl⟩
       have hST2:Hid (sameTree ss i (x.frm.parts.getD 0 [])=(rj == ri)):=by
        show _=_
        rw[HZ.out,hST.out,←hrj2,←hri,←hnj2,←HNm2.out,sameTree_ref HOwn.out HPar.out (by rw[HN.out];exact hi) (by rw[HN.out];exact hj)]
        rfl
       have hcw7:Calm w w7:=HC1.out.trans (HCW.out.trans HC7.out)
       have KR1:Hid (∀p:CalmTo w7,Calls Tryz.prog 96 #[.slice (some ⟨b,o,none⟩) n c,.string (bs nj)] p.w fun e w'=>e=.returned (.string (bs rj))∧Calm p.w w'):=fun p=>by
        have:=KR.out p.w nj (hcw7.trans p.h)
        rw[hrj2] at this
        exact this
       have KR2:Hid (∀p:CalmTo w7,Calls Tryz.prog 96 #[.slice (some ⟨b,o,none⟩) n c,.string (bs nm)] p.w fun e w'=>e=.returned (.string (bs ri))∧Calm p.w w'):=fun p=>by
        have:=KR.out p.w nm (hcw7.trans p.h)
        rw[hri] at this
        exact this
       have g0:=fun p:CalmTo w7=>p.cell (Calm.at_ hcw7 hcj hbj) (Nat.lt_of_lt_of_le hbj hcw7.size)
       have g1:=fun p:CalmTo w7=>p.cell (Calm.at_ hcw7 HCN.out hbj) (Nat.lt_of_lt_of_le hbj hcw7.size)
       have HCW7:=Lib.hid hcw7
       clear hrj hsatj hsuj hnj hnj2 hrj2 hri hcj hcw7 hST
       refine wp_region_calm (by kernel_rfl) (by kernel_rfl) ?_
       repeat (go_big_quiet_step ((first
        |(go_at_call 96;with_reducible exact calmOf (KR1.out _))
        |(go_at_call 96;with_reducible exact calmOf (KR2.out _)))))
       refine wpQuiet_nil ?_
       intro w8 hc8
       clear g0 g1
       obtain⟨st,htt⟩:∃st,(rj == ri)=st:=⟨_,rfl⟩
       rw[htt]
       rw[htt] at hST2
       clear htt
       cases st with
       |true=>
        have hE3:Hid ((!badImp ss i)=false):=by
         show _=_
         rw[hE2.out,HB3.out,badFrom_yes HX.out HXf.out.1,hST2.out]
         simp
        go_wp2_with fail
        go_ret
        exact⟨ret_bool hE3.out.symm,HCW7.out.trans hc8⟩
       |false=>
        have hSTf:Hid (sameTree ss i (x.frm.parts.getD 0 [])=false):=hST2
        have HCx:Hid (Calm wB w8):=HC7.out.trans hc8
        clear hc8
        have HO4:Hid (Oth w1 w8 (.slice OA L oc) l3):=HO3.out.to (HCB.out.trans HCx.out)
        go_wp2_with fail
        go_loopw [92] (fun q wr=>∃k4:Nat,k4≤L∧q=.int .i64 k4∧Hid (Calm w8 wr)∧Hid (∀j y,j < k4→l3[j]?=some y→meetP x.frm y.p=none)) (fun q _=>L - (intOf q).toNat)
        case atStart=>exact⟨0,Nat.zero_le _,rfl,Calm.refl _,fun j y hj=>absurd hj (Nat.not_lt_zero _)⟩
        case round=>
         obtain⟨k4,hk4,rfl,HC4,HG4⟩:=hrel
         have z3:=(HBX.out.calm (HCx.out.trans HC4.out)).c3
         have z4:=(HBX.out.calm (HCx.out.trans HC4.out)).c4
         simp only at z3
         by_cases hlt4:k4 < L
         ·obtain⟨y,hy⟩:∃y,l3[k4]?=some y:=⟨_,List.getElem?_eq_getElem (by rw[HLL.out];exact hlt4)⟩
          obtain⟨g,rfl,hg,hcl⟩:=HOS.out (by omega)
          have hca:Calm wq wr:=HCB.out.trans (HCx.out.trans HC4.out)
          have y0:=Calm.at_ hca (hcl k4 y hy).1 hg
          have y1:=Calm.at_ hca (hcl k4 y hy).2 hg
          obtain⟨ny,hny⟩:∃ny,y.p.parts.length=ny:=⟨_,rfl⟩
          obtain⟨ry,hry⟩:∃ry,y.p.rest=ry:=⟨_,rfl⟩
          rw[hny] at y0
          rw[hry] at y1
          obtain⟨vm,hvm⟩:∃vm,(meetP x.frm y.p).isSome=vm:=⟨_,rfl⟩
          have hye:=HO3.out.each y (List.mem_of_getElem? hy)
          have hys:=HSP3.out y (List.mem_of_getElem? hy)
          have KM:Hid (∀W,Calm wr W→Calls Tryz.prog 97 #[.agg #[.slice y.A ny y.c,.bool ry],.agg #[.slice (some ⟨bk,ok,none⟩) nf cr,.bool rf]] W fun e w'=>(∃A2 n2 c2 r2,e=.returned (.tuple #[.agg #[.slice A2 n2 c2,.bool r2],.bool vm]))∧Calm W w'):=fun W hW=>by
           have hcw2:Calm w1 W:=(HO3.out.calm.trans hca).trans hW
           exact rmeet_v8 y.p x.frm _ _ ny nf y.c cr ry rf vm W (patA_of (hye.1.calm hcw2) hys.1 hys.2) (patA_of (hfrm.out.calm hcw2) HSV.out.rp HSV.out.rs) hye.2 HEp.out hny HXf.out.2.1 hry HXf.out.2.2 hvm
          have HY:=Lib.hid hy
          have hcA:Calm wr (wr.alloc (.cells #[.slice y.A ny y.c,.bool ry] 51)):=(Calm.refl wr).alloc _
          have z5:=(HBX.out.calm ((HCx.out.trans HC4.out).trans hcA)).c3
          have z6:=(HBX.out.calm ((HCx.out.trans HC4.out).trans hcA)).c4
          simp only at z5
          clear z3 z4 hcA
          have HVM:=Lib.hid hvm
          clear hy hcl hny hry hvm hye hys
          cases vm with
          |true=>
           have hE3:Hid ((!badImp ss i)=false):=by
            show _=_
            rw[hE2.out,HB3.out,badFrom_yes HX.out HXf.out.1]
            have:(l3.map (·.p)).any (fun o=>(meetP x.frm o).isSome)=true:=List.any_eq_true.2 ⟨y.p,List.mem_map.2 ⟨y,List.mem_of_getElem? HY.out,rfl⟩,HVM.out⟩
            rw[this]
            simp
           go_wp2_with (go_at_call 97;refine (KM.out _ ((Calm.refl _).alloc _)).mono ?_;rintro e w5 ⟨⟨A5,n5,c5,r5,rfl⟩,hc5⟩)
           go_ret
           exact⟨ret_bool hE3.out.symm,HC1.out.trans ((HO3.out.calm.trans hca).trans ((((Calm.refl _).alloc _).trans hc5).alloc _))⟩
          |false=>
           go_wp2_with (go_at_call 97;refine (KM.out _ ((Calm.refl _).alloc _)).mono ?_;rintro e w5 ⟨⟨A5,n5,c5,r5,rfl⟩,hc5⟩)
           go_roundw
           case rel=>exact⟨k4+1,by omega,by go_num,HC4.out.trans ((((Calm.refl _).alloc _).trans hc5).alloc _),snoc_at HY.out (by simpa using HVM.out) HG4.out⟩
           case measure=>simp[intOf];omega
         ·obtain rfl:k4=L:=by omega
          have HBx:=Lib.hid (enc_new wr ⟨some ⟨bk,ok,none⟩,cr,x.frm⟩ rfl HXf.out.2.1 HXf.out.2.2)
          go_wp2_with (at_builtin;refine wpList_append_p rfl (.tmp 105) (.tmp 108) rfl w1 _ l3 rfl (HO4.out.own.to (HC4.out.trans ((Calm.refl wr).alloc _))) wr.heap.size 1 rfl ⟨some ⟨bk,ok,none⟩,cr,x.frm⟩ HBx.out (by rw[HLL.out];omega) ?_;intro v5 w5 hown5 hg5)
          go_roundw
          case rel=>
           refine⟨k3+1,l3++[⟨some ⟨bk,ok,none⟩,cr,x.frm⟩],by omega,by go_num,by rw[List.length_append,HLL.out];simp;omega,⟨hown5,fun y hy=>?_⟩,?_,HSP3.out.snoc HSV.out.rp HSV.out.rs⟩
           ·rcases List.mem_append.1 hy with hy | hy
            ·exact HO3.out.each y hy
            ·rw[List.mem_singleton] at hy
             subst hy
             exact⟨hfrm.out,HEp.out⟩
           ·show _=_
            have hany:(l3.map (·.p)).any (fun o=>(meetP x.frm o).isSome)=false:=by
             rw[List.any_eq_false]
             intro o ho
             obtain⟨y,hy,rfl⟩:=List.mem_map.1 ho
             simp[all_to HLL.out HG4.out y hy]
            rw[HB3.out,badFrom_yes HX.out HXf.out.1,hSTf.out,hany,List.map_append]
            simp
          case measure=>simp[intOf];omega
     ·have hκb:(κ == 3)=false:=by simpa using hκ
      have hκn:(κ != 3)=true:=by simpa using hκ
      have HK:=Lib.hid hκ
      clear hκ
      go_wp2_with fail
      go_roundw
      case rel=>
       refine⟨k3+1,l3,by omega,by go_num,by rw[HLL.out];omega,HO3.out.to ((Calm.refl wq).alloc _),?_,HSP3.out⟩
       show _=_
       rw[HB3.out,badFrom_no HX.out (by rw[HXf.out.1];exact HK.out)]
      case measure=>simp[intOf];omega
    ·obtain rfl:k3=np:=by omega
     have hE3:Hid ((!badImp ss i)=true):=by
      show _=_
      rw[hE2.out,HB3.out,List.drop_of_length_le (by rw[HNp.out];exact Nat.le_refl _)]
      rfl
     go_wp2_with fail
     go_ret
     exact⟨ret_bool hE3.out.symm,HC1.out.trans HO3.out.calm⟩
theorem parErr_main {ss:List Strm} {i:Nat} (h:(strm ss i).parent=[]):parErr ss i=0:=by simp[parErr,h]
theorem parErr_some {ss:List Strm} {i j:Nat} (h:findI ss (strm ss i).parent=some j):parErr ss i=0:=by
 unfold parErr parentI
 by_cases e:(strm ss i).parent=[]
 ·simp[e]
 ·simp[e,h]
theorem parErr_none {ss:List Strm} {i:Nat} (h0:(strm ss i).parent≠[]) (h:findI ss (strm ss i).parent=none):parErr ss i=83:=by
 simp[parErr,parentI,h0,h]
theorem snoc_zero {f:Nat→Int} {k:Nat} (h:f k=0) (hq:∀j,j < k→f j=0):∀j,j < k+1→f j=0:=fun j hj=>by
 by_cases e:j=k
 ·subst e
  exact h
 ·exact hq j (by omega)
theorem steps_snoc {ss:List Strm} {n K:Nat} (hp:∀j,j < K→∀i,i < n→stepOf ss j i=0) (hq:∀i,i < n→stepOf ss K i=0):∀j,j < K+1→∀i,i < n→stepOf ss j i=0:=fun j hj=>by
 by_cases e:j=K
 ·subst e
  exact hq
 ·exact hp j (by omega)
theorem strErr_at {ss:List Strm} {n k i:Nat} {v:Int} (hn:ss.length=n) (h16:n≤16) (hk:k < 5) (hp:∀j,j < k→∀i,i < n→stepOf ss j i=0) (hi:i < n) (h:stepOf ss k i=v) (h0:v≠0) (hq:∀j,j < i→stepOf ss k j=0):strErr ss=(i,v):=by
 rw[←h]
 exact strErr_hit hn h16 hk hp hi (by rw[h];exact h0) hq
set_option maxRecDepth 100000 in
set_option maxHeartbeats 16000000 in
theorem rcheck8_c (ss:List Strm) (A:Option Addr) (n c:Nat) (w:World) (hs:StrmsU w A ss) (hn:ss.length=n) (hle:n≤1000) (hsm:SmallSS ss) :
  Calls Tryz.prog 24 #[.slice A n c] w fun e w'=>e=.returned (.tuple #[.int .i64 ((strErr ss).1:Nat),.int .i64 (strErr ss).2])∧Calm w w':=by
 have KF:Hid (∀W x,Calm w W→Calls Tryz.prog 25 #[.slice A n c,.string (bs x)] W fun e w'=>e=.returned (.int .i64 (oZ (findI ss x)))∧Calm W w'):=fun W x hW=>rfind_c ss x _ n c W (hs.calm hW) hn
 have KN:Hid (∀W x,Calm w W→Calls Tryz.prog 57 #[.slice A n c,.string (bs x)] W fun e w'=>NamesEnd (refAncs ss x) e w'∧Calm W w'):=fun W x hW=>ranc_c ss x _ n c W (hs.calm hW) hn hle
 have KI:Hid (∀W i,Calm w W→i < n→(∀i,i < ss.length→ownErr ss i=0)→(∀i,i < ss.length→parErr ss i=0)→Calls Tryz.prog 58 #[.slice A n c,.int .i64 i] W fun e w'=>e=.returned (.bool (!badImp ss i))∧Calm W w'):=fun W i hW hi h1 h2=>rimports_c ss _ n c i W (hs.calm hW) hn hle hi h1 h2 hsm
 have HN:=Lib.hid hn
 have HS:=Lib.hid hs
 have HSm:=Lib.hid hsm
 clear hs hn hsm
 go_enter Tryz.func24,Tryz.ntmps24
 by_cases h16:16 < n
 ·go_wp2
  go_ret2
  exact⟨by rw[strErr_big HN.out h16];rfl,Calm.refl _⟩
 ·have h16i:decide ((16:Int) < (n:Int))=false:=by simp;omega
  have h16n:Hid (n≤16):=by show n≤16;omega
  go_wp2_with fail
  go_loopw [22] (fun q wr=>∃k:Nat,k≤n∧q=.int .i64 k∧Hid (∀j,j < k→stepOf ss 0 j=0)∧Hid (Calm w wr)) (fun q _=>n - (intOf q).toNat)
  case atStart=>exact⟨0,Nat.zero_le _,rfl,fun j hj=>absurd hj (Nat.not_lt_zero _),Calm.refl _⟩
  case round=>
   obtain⟨k,hk,rfl,HQ,HC⟩:=hrel
   obtain⟨wq,rfl⟩:∃wq,wq=wr:=⟨_,rfl⟩
   by_cases hlt:k < n
   ·obtain⟨b,o,s,PA,pc,rfl,hb,hr,hat,hsu⟩:=(HS.out.calm HC.out).get (k:=k) (by rw[HN.out];exact hlt)
    have c0:=hat.c0
    have c1:=hat.c1
    have c2:=hat.c2
    have hs:=strm_at hr
    obtain⟨nm,hnm⟩:∃nm,s.name=nm:=⟨_,rfl⟩
    obtain⟨pa,hpa⟩:∃pa,s.parent=pa:=⟨_,rfl⟩
    obtain⟨np,hnp⟩:∃np,s.paths.length=np:=⟨_,rfl⟩
    have hnl:=hsu.name
    rw[hnm] at c0 hnl
    rw[hpa] at c1
    rw[hnp] at c2
    have hE:Hid (stepOf ss 0 k=if comp nm=false∨24 < nm.length∨nm=viewN then 81 else if (findI ss nm).getD 0 < k then 82 else if s.paths.all lineOk=false then 85 else if 12 < np then 80 else 0):=by
     show ownErr ss k=_
     unfold ownErr
     rw[hs,hnm,hnp]
    obtain⟨fj,hfj,hfk⟩:=findI_le hr
    rw[hnm] at hfj
    obtain⟨w1,hw1⟩:∃w1,w1=wq.alloc (.cells #[.string (bs nm),.string (bs pa),.slice PA np pc] 49):=⟨_,rfl⟩
    have hc1:Calm wq w1:=by rw[hw1];exact (Calm.refl wq).alloc _
    have hbox:BoxS w1 wq.heap.size nm pa PA np pc:=by rw[hw1];exact BoxS.new wq nm pa PA np pc
    obtain⟨cv,hcv⟩:∃cv,comp nm=cv:=⟨_,rfl⟩
    have hcomp:Hid (∀W,Calls Tryz.prog 55 #[.string (bs nm)] W fun e w'=>e=.returned (.bool cv)∧W=w'):=fun W=>rcomp_v nm cv W (by omega) hcv
    have K1:Hid (∀W,Calm w W→Calls Tryz.prog 25 #[.slice (some ⟨b,o,none⟩) n c,.string (bs nm)] W fun e w'=>e=.returned (.int .i64 (fj:Nat))∧Calm W w'):=fun W hW=>by
     have:=KF.out W nm hW
     rw[hfj] at this
     exact this
    have HW:=Lib.hid hw1
    have HC1:=Lib.hid hc1
    have HB:=Lib.hid hbox
    have HCv:=Lib.hid hcv
    have HL:=Lib.hid hsu.lines
    have HNp:=Lib.hid hnp
    have HFj:=Lib.hid hfj
    have HSx:Hid (∀x∈s.paths,SmallV x.rule):=HSm.out s (List.mem_of_getElem? hr)
    have k0:=hbox.c0
    have hnpl:=hsu.lines.len
    rw[hnp] at hnpl
    have hbs:=bs_size nm
    clear hs hnm hpa hnp hat hsu hr hw1 hc1 hbox hcv hfj
    cases cv with
    |false=>
     have hE2:Hid (strErr ss=(k,81)):=strErr_at HN.out h16n.out (by decide) (fun j hj=>absurd hj (Nat.not_lt_zero _)) hlt (by rw[hE.out,if_pos (.inl HCv.out)]) (by decide) HQ.out
     clear hE
     go_wp2_with (first | (go_at_call 55;rw[←HW.out];refine (hcomp.out _).mono ?_;rintro e w2 ⟨rfl,rfl⟩))
     go_ret2
     exact⟨by rw[hE2.out];rfl,HC.out.trans HC1.out⟩
    |true=>
     by_cases h24:24 < nm.length
     ·have hE2:Hid (strErr ss=(k,81)):=strErr_at HN.out h16n.out (by decide) (fun j hj=>absurd hj (Nat.not_lt_zero _)) hlt (by rw[hE.out,if_pos (.inr (.inl h24))]) (by decide) HQ.out
      clear hE
      go_wp2_with (first | (go_at_call 55;rw[←HW.out];refine (hcomp.out _).mono ?_;rintro e w2 ⟨rfl,rfl⟩))
      go_ret2
      exact⟨by rw[hE2.out];rfl,HC.out.trans HC1.out⟩
     ·by_cases hvw:nm=viewN
      ·have hvb:(nm == [118,105,101,119])=true:=by simpa[viewN] using hvw
       have hE2:Hid (strErr ss=(k,81)):=strErr_at HN.out h16n.out (by decide) (fun j hj=>absurd hj (Nat.not_lt_zero _)) hlt (by rw[hE.out,if_pos (.inr (.inr hvw))]) (by decide) HQ.out
       clear hE hvw
       go_wp2_with (first | (go_at_call 55;rw[←HW.out];refine (hcomp.out _).mono ?_;rintro e w2 ⟨rfl,rfl⟩))
       go_ret2
       exact⟨by rw[hE2.out];rfl,HC.out.trans HC1.out⟩
      ·have hvb:(nm == [118,105,101,119])=false:=by simpa[viewN] using hvw
       have hE2:Hid (stepOf ss 0 k=if fj < k then 82 else if s.paths.all lineOk=false then 85 else if 12 < np then 80 else 0):=by
        show _=_
        rw[hE.out,if_neg (fun h=>h.elim (fun h=>by rw[HCv.out] at h;cases h) (fun h=>h.elim h24 hvw)),HFj.out]
        rfl
       clear hE hvw
       by_cases hji:fj < k
       ·have hE3:Hid (strErr ss=(k,82)):=strErr_at HN.out h16n.out (by decide) (fun j hj=>absurd hj (Nat.not_lt_zero _)) hlt (by rw[hE2.out,if_pos hji]) (by decide) HQ.out
        clear hE2
        go_wp2_with (first
         |(go_at_call 55;rw[←HW.out];refine (hcomp.out _).mono ?_;rintro e w2 ⟨rfl,rfl⟩)
         |(go_at_call 25;refine (K1.out _ (HC.out.trans HC1.out)).mono ?_;rintro e w3 ⟨rfl,hc3⟩))
        go_ret2
        exact⟨by rw[hE3.out];rfl,HC.out.trans (HC1.out.trans hc3)⟩
       ·have hE3:Hid (stepOf ss 0 k=if s.paths.all lineOk=false then 85 else if 12 < np then 80 else 0):=by
         show _=_
         rw[hE2.out,if_neg hji]
        clear hE2
        obtain rfl:fj=k:=by omega
        go_wp2_with (first
         |(go_at_call 55;rw[←HW.out];refine (hcomp.out _).mono ?_;rintro e w2 ⟨rfl,rfl⟩)
         |(go_at_call 25;refine (K1.out _ (HC.out.trans HC1.out)).mono ?_;rintro e w3 ⟨rfl,hc3⟩;have k2:=(HB.out.calm hc3).c2))
        have HC3:=Lib.hid hc3
        clear hc3 k0
        go_loopw [53] (fun q wr=>∃t:Nat,t≤np∧q=.int .i64 t∧Hid (∀j x,j < t→s.paths[j]?=some x→lineOk x=true)∧Hid (Calm w3 wr)) (fun q _=>np - (intOf q).toNat)
        case atStart=>exact⟨0,Nat.zero_le _,rfl,fun j x hj=>absurd hj (Nat.not_lt_zero _),Calm.refl _⟩
        case round=>
         obtain⟨t,ht,rfl,HG,HCr⟩:=hrel
         by_cases hkl:t < np
         ·obtain⟨b',o',x,a,rfl,hb',hx,hxa,hru⟩:=(HL.out.calm (HC1.out.trans (HC3.out.trans HCr.out))).get (k:=t) (by rw[HNp.out];exact hkl)
          have c0:=hxa.c0
          have c1:=hxa.c1
          have c2:=hxa.c2
          have c3:=hxa.c3
          have c4:=hxa.c4
          obtain⟨κ,h0⟩:∃κ,x.kind=κ:=⟨_,rfl⟩
          obtain⟨npp,h1⟩:∃npp,x.path.parts.length=npp:=⟨_,rfl⟩
          obtain⟨nf,h2⟩:∃nf,x.frm.parts.length=nf:=⟨_,rfl⟩
          obtain⟨rp,h3⟩:∃rp,x.path.rest=rp:=⟨_,rfl⟩
          obtain⟨rf,h4⟩:∃rf,x.frm.rest=rf:=⟨_,rfl⟩
          obtain⟨lo,hlo⟩:∃lo,lineOk x=lo:=⟨_,rfl⟩
          have hsv:=HSx.out x (List.mem_of_getElem? hx)
          have KL:Hid (∀W,Calm wr W→Calls Tryz.prog 56 #[.agg #[.int .i64 κ,.slice a.AL npp a.cl,.bool rp,.slice a.AR nf a.cr,.bool rf]] W fun e w'=>e=.returned (.bool lo)∧Calm W w'):=fun W hW=>by
           have:=rline8_c x a κ npp nf rp rf W (hru.calm hW) hsv h0 h1 h2 h3 h4
           rw[hlo] at this
           exact this
          rw[h0] at c0
          rw[h1] at c1
          rw[h3] at c2
          rw[h2] at c3
          rw[h4] at c4
          have HX:=Lib.hid hx
          have HLo:=Lib.hid hlo
          clear hxa hru h0 h1 h2 h3 h4 hx hlo hsv
          cases lo with
          |true=>
           go_wp2_with (go_at_call 56;refine (KL.out _ ((Calm.refl _).alloc _)).mono ?_;rintro e w8 ⟨rfl,hc8⟩)
           go_roundw
           case rel=>exact⟨t+1,by omega,by go_num,snoc_at HX.out HLo.out HG.out,HCr.out.trans (((Calm.refl _).alloc _).trans hc8)⟩
           case measure=>simp[intOf];omega
          |false=>
           have hE4:Hid (strErr ss=(fj,85)):=strErr_at HN.out h16n.out (by decide) (fun j hj=>absurd hj (Nat.not_lt_zero _)) hlt (by
            rw[hE3.out,if_pos]
            rw[List.all_eq_false]
            exact⟨x,List.mem_of_getElem? HX.out,by rw[HLo.out];decide⟩) (by decide) HQ.out
           go_wp2_with (go_at_call 56;refine (KL.out _ ((Calm.refl _).alloc _)).mono ?_;rintro e w8 ⟨rfl,hc8⟩)
           go_ret2
           exact⟨by rw[hE4.out];rfl,HC.out.trans (HC1.out.trans (HC3.out.trans (HCr.out.trans (((Calm.refl _).alloc _).trans hc8))))⟩
         ·obtain rfl:t=np:=by omega
          have hE4:Hid (stepOf ss 0 fj=if 12 < t then 80 else 0):=by
           show _=_
           have hal:s.paths.all lineOk=true:=List.all_eq_true.2 (all_to HNp.out HG.out)
           rw[hE3.out,if_neg (by rw[hal];decide)]
          have k3:=(HB.out.calm (HC3.out.trans HCr.out)).c2
          by_cases h12:12 < t
          ·have hE5:Hid (strErr ss=(fj,80)):=strErr_at HN.out h16n.out (by decide) (fun j hj=>absurd hj (Nat.not_lt_zero _)) hlt (by rw[hE4.out,if_pos h12]) (by decide) HQ.out
           go_wp2
           go_ret2
           exact⟨by rw[hE5.out];rfl,HC.out.trans (HC1.out.trans (HC3.out.trans HCr.out))⟩
          ·have hE5:Hid (stepOf ss 0 fj=0):=by show _=_;rw[hE4.out,if_neg h12]
           go_wp2
           go_roundw
           case rel=>exact⟨fj+1,by omega,by go_num,snoc_zero hE5.out HQ.out,HC.out.trans (HC1.out.trans (HC3.out.trans HCr.out))⟩
           case measure=>simp[intOf];omega
   ·obtain rfl:k=n:=by omega
    have HP1:Hid (∀j,j < 1→∀i,i < k→stepOf ss j i=0):=steps_snoc (fun j hj=>absurd hj (Nat.not_lt_zero _)) HQ.out
    have HCA:=HC
    clear HQ HC
    go_wp2_with fail
    go_loopw [70] (fun q wr=>∃t:Nat,t≤k∧q=.int .i64 t∧Hid (∀j,j < t→stepOf ss 1 j=0)∧Hid (Calm w wr)) (fun q _=>k - (intOf q).toNat)
    case atStart=>exact⟨0,Nat.zero_le _,rfl,fun j hj=>absurd hj (Nat.not_lt_zero _),HCA.out⟩
    case round=>
     obtain⟨t,ht,rfl,HQ,HC⟩:=hrel
     by_cases hlt:t < k
     ·obtain⟨b,o,s,PA,pc,rfl,hb,hr,hat,hsu⟩:=(HS.out.calm HC.out).get (k:=t) (by rw[HN.out];exact hlt)
      have c0:=hat.c0
      have c1:=hat.c1
      have c2:=hat.c2
      have hs:=strm_at hr
      obtain⟨nm,hnm⟩:∃nm,s.name=nm:=⟨_,rfl⟩
      obtain⟨pa,hpa⟩:∃pa,s.parent=pa:=⟨_,rfl⟩
      obtain⟨np,hnp⟩:∃np,s.paths.length=np:=⟨_,rfl⟩
      rw[hnm] at c0
      rw[hpa] at c1
      rw[hnp] at c2
      have HPa:Hid ((strm ss t).parent=pa):=by show _=_;rw[hs,hpa]
      obtain⟨o2,ho2⟩:∃o2,findI ss pa=o2:=⟨_,rfl⟩
      obtain⟨z2,hz2⟩:∃z,oZ o2=z:=⟨_,rfl⟩
      have K1:Hid (∀W,Calm wr W→Calls Tryz.prog 25 #[.slice (some ⟨b,o,none⟩) k c,.string (bs pa)] W fun e w'=>e=.returned (.int .i64 z2)∧Calm W w'):=fun W hW=>by
       have:=KF.out W pa (HC.out.trans hW)
       rw[ho2,hz2] at this
       exact this
      have HO2:=Lib.hid ho2
      have HZ2:=Lib.hid hz2
      clear hs hnm hpa hnp hat hsu hr ho2 hz2
      cases pa with
      |nil=>
       have hE:Hid (stepOf ss 1 t=0):=parErr_main HPa.out
       have e0:bs []=⟨#[]⟩:=rfl
       rw[e0] at c1
       go_wp2_with fail
       go_roundw
       case rel=>exact⟨t+1,by omega,by go_num,snoc_zero hE.out HQ.out,HC.out.trans ((Calm.refl _).alloc _)⟩
       case measure=>simp[intOf];omega
      |cons y tl=>
       have hne:(y :: tl).isEmpty=false:=rfl
       obtain⟨pa,hpa⟩:∃pa,y :: tl=pa:=⟨_,rfl⟩
       have HP0:Hid (pa≠[]):=by show pa≠[];rw[←hpa];simp
       rw[hpa] at c1 hne HPa K1 HO2
       clear hpa
       cases o2 with
       |none=>
        obtain rfl:-1=z2:=HZ2.out
        have hE:Hid (strErr ss=(t,83)):=strErr_at HN.out h16n.out (by decide) HP1.out hlt (parErr_none (by rw[HPa.out];exact HP0.out) (by rw[HPa.out];exact HO2.out)) (by decide) HQ.out
        go_wp2_with (go_at_call 25;refine (K1.out _ ((Calm.refl _).alloc _)).mono ?_;rintro e w3 ⟨rfl,hc3⟩)
        go_ret2
        exact⟨by rw[hE.out];rfl,HC.out.trans (((Calm.refl _).alloc _).trans hc3)⟩
       |some j=>
        obtain rfl:((j:Nat):Int)=z2:=HZ2.out
        have hE:Hid (stepOf ss 1 t=0):=parErr_some (by rw[HPa.out];exact HO2.out)
        go_wp2_with (go_at_call 25;refine (K1.out _ ((Calm.refl _).alloc _)).mono ?_;rintro e w3 ⟨rfl,hc3⟩)
        go_roundw
        case rel=>exact⟨t+1,by omega,by go_num,snoc_zero hE.out HQ.out,HC.out.trans (((Calm.refl _).alloc _).trans hc3)⟩
        case measure=>simp[intOf];omega
     ·obtain rfl:t=k:=by omega
      have HP2:Hid (∀j,j < 2→∀i,i < t→stepOf ss j i=0):=steps_snoc HP1.out HQ.out
      have HOwn:Hid (∀i,i < ss.length→ownErr ss i=0):=fun i hi=>HP2.out 0 (by decide) i (by rw[←HN.out];exact hi)
      have HPar:Hid (∀i,i < ss.length→parErr ss i=0):=fun i hi=>HP2.out 1 (by decide) i (by rw[←HN.out];exact hi)
      have HCA:=HC
      clear HQ HC HP1
      go_wp2_with fail
      go_loopw [89] (fun q wr=>∃k:Nat,k≤t∧q=.int .i64 k∧Hid (∀j,j < k→stepOf ss 2 j=0)∧Hid (Calm w wr)) (fun q _=>t - (intOf q).toNat)
      case atStart=>exact⟨0,Nat.zero_le _,rfl,fun j hj=>absurd hj (Nat.not_lt_zero _),HCA.out⟩
      case round=>
       obtain⟨k,hk,rfl,HQ,HC⟩:=hrel
       obtain⟨wq,rfl⟩:∃wq,wq=wr:=⟨_,rfl⟩
       by_cases hlt:k < t
       ·obtain⟨b,o,s,PA,pc,rfl,hb,hr,hat,hsu⟩:=(HS.out.calm HC.out).get (k:=k) (by rw[HN.out];exact hlt)
        have c0:=hat.c0
        have c1:=hat.c1
        have c2:=hat.c2
        have hs:=strm_at hr
        obtain⟨nm,hnm⟩:∃nm,s.name=nm:=⟨_,rfl⟩
        obtain⟨pa,hpa⟩:∃pa,s.parent=pa:=⟨_,rfl⟩
        obtain⟨np,hnp⟩:∃np,s.paths.length=np:=⟨_,rfl⟩
        rw[hnm] at c0
        rw[hpa] at c1
        rw[hnp] at c2
        obtain⟨l,hl⟩:∃l,refAncs ss nm=l:=⟨_,rfl⟩
        obtain⟨m,hm⟩:∃m,l.length=m:=⟨_,rfl⟩
        have hmle:m≤1000:=by
         have:=refAnc_len (ss:=ss) ss.length (findI ss nm)
         rw[show refAnc ss ss.length (findI ss nm)=l from hl,hm,HN.out] at this
         omega
        have hE:Hid (stepOf ss 2 k=if nm∈l then 84 else 0):=by
         show cycErr ss k=_
         rw[cyc_ref HOwn.out HPar.out (by rw[HN.out];exact hlt),hs,hnm,hl]
        have K1:Hid (∀W,Calm wq W→Calls Tryz.prog 57 #[.slice (some ⟨b,o,none⟩) t c,.string (bs nm)] W fun e w'=>(∃A c,e=.returned (.slice A m c)∧StrsU w' A l∧m≤c)∧Calm W w'):=fun W hW=>by
         have:=KN.out W nm (HC.out.trans hW)
         unfold NamesEnd at this
         rw[hl,hm] at this
         exact this
        have HM:=Lib.hid hm
        have hbox:=BoxS.new wq nm pa PA np pc
        have HB:=Lib.hid hbox
        clear hs hnm hpa hnp hat hsu hr hl hm hbox
        go_wp2_with (go_at_call 57;refine (K1.out _ ((Calm.refl _).alloc _)).mono ?_;rintro e w3 ⟨⟨VA,vc,rfl,hia⟩,hc3⟩)
        have HI:=Lib.hid hia.1
        have HC3:=Lib.hid hc3
        have HCq:Hid (Calm wq w3):=((Calm.refl _).alloc _).trans hc3
        clear hia hc3
        go_loopw [99] (fun q wr=>∃u:Nat,u≤m∧q=.int .i64 u∧Hid (∀j y,j < u→l[j]?=some y→y≠nm)∧Hid (Calm w3 wr)) (fun q _=>m - (intOf q).toNat)
        case atStart=>exact⟨0,Nat.zero_le _,rfl,fun j x hj=>absurd hj (Nat.not_lt_zero _),Calm.refl _⟩
        case round=>
         obtain⟨u,hu,rfl,HG,HCr⟩:=hrel
         have k0:=(HB.out.calm (HC3.out.trans HCr.out)).c0
         by_cases hul:u < m
         ·obtain⟨g,og,y,rfl,hg,hy,hyl,hcy⟩:=(HI.out.calm HCr.out).get (k:=u) (by rw[HM.out];exact hul)
          have HY:=Lib.hid hy
          clear hy
          by_cases e:y=nm
          ·have hE2:Hid (strErr ss=(k,84)):=strErr_at HN.out h16n.out (by decide) HP2.out hlt (by rw[hE.out,if_pos (by rw[←e];exact List.mem_of_getElem? HY.out)]) (by decide) HQ.out
           subst e
           go_wp2_with fail
           go_ret2
           exact⟨by rw[hE2.out];rfl,HC.out.trans (HCq.out.trans HCr.out)⟩
          ·have hyb:(y == nm)=false:=by simpa using e
           have HE:=Lib.hid e
           clear e
           go_wp2_with fail
           go_roundw
           case rel=>exact⟨u+1,by omega,by go_num,snoc_at (P:=fun y:Str=>y≠nm) HY.out HE.out HG.out,HCr.out⟩
           case measure=>simp[intOf];omega
         ·obtain rfl:u=m:=by omega
          have hE2:Hid (stepOf ss 2 k=0):=by
           show _=_
           rw[hE.out,if_neg (fun h=>by
            obtain⟨j,hj,e⟩:=List.mem_iff_getElem.1 h
            exact HG.out j nm (by rw[←HM.out];exact hj) (by rw[List.getElem?_eq_getElem hj,e]) rfl)]
          go_wp2_with fail
          go_roundw
          case rel=>exact⟨k+1,by omega,by go_num,snoc_zero hE2.out HQ.out,HC.out.trans (HCq.out.trans HCr.out)⟩
          case measure=>simp[intOf];omega
       ·obtain rfl:k=t:=by omega
        have HP3:Hid (∀j,j < 3→∀i,i < k→stepOf ss j i=0):=steps_snoc HP2.out HQ.out
        have HCB:=HC
        clear HQ HC HP2
        go_wp2_with fail
        go_loopw [112] (fun q wr=>∃t:Nat,t≤k∧q=.int .i64 t∧Hid (∀j,j < t→stepOf ss 3 j=0)∧Hid (Calm w wr)) (fun q _=>k - (intOf q).toNat)
        case atStart=>exact⟨0,Nat.zero_le _,rfl,fun j hj=>absurd hj (Nat.not_lt_zero _),HCB.out⟩
        case round=>
         obtain⟨t,ht,rfl,HQ,HC⟩:=hrel
         by_cases hlt:t < k
         ·obtain⟨b,o,s,PA,pc,rfl,hb,hr,hat,hsu⟩:=(HS.out.calm HC.out).get (k:=t) (by rw[HN.out];exact hlt)
          have c0:=hat.c0
          have c1:=hat.c1
          have c2:=hat.c2
          have hs:=strm_at hr
          obtain⟨nm,hnm⟩:∃nm,s.name=nm:=⟨_,rfl⟩
          obtain⟨pa,hpa⟩:∃pa,s.parent=pa:=⟨_,rfl⟩
          obtain⟨np,hnp⟩:∃np,s.paths.length=np:=⟨_,rfl⟩
          rw[hnm] at c0
          rw[hpa] at c1
          rw[hnp] at c2
          obtain⟨l,hl⟩:∃l,refAncs ss nm=l:=⟨_,rfl⟩
          obtain⟨m,hm⟩:∃m,l.length=m:=⟨_,rfl⟩
          have hmle:m≤1000:=by
           have:=refAnc_len (ss:=ss) ss.length (findI ss nm)
           rw[show refAnc ss ss.length (findI ss nm)=l from hl,hm,HN.out] at this
           omega
          have hE:Hid (stepOf ss 3 t=if 6 < 1+m then 80 else 0):=by
           show deepErr ss t=_
           rw[deep_ref HOwn.out HPar.out (by rw[HN.out];exact hlt),hs,hnm,hl,hm]
          have K1:Hid (∀W,Calm wr W→Calls Tryz.prog 57 #[.slice (some ⟨b,o,none⟩) k c,.string (bs nm)] W fun e w'=>(∃A c,e=.returned (.slice A m c)∧StrsU w' A l∧m≤c)∧Calm W w'):=fun W hW=>by
           have:=KN.out W nm (HC.out.trans hW)
           unfold NamesEnd at this
           rw[hl,hm] at this
           exact this
          clear hs hnm hpa hnp hat hsu hr hl hm
          by_cases h6:6 < 1+m
          ·have hE2:Hid (strErr ss=(t,80)):=strErr_at HN.out h16n.out (by decide) HP3.out hlt (by rw[hE.out,if_pos h6]) (by decide) HQ.out
           have hd6:decide ((6:Int) < 1+(m:Int))=true:=by simp;omega
           go_wp2_with (go_at_call 57;refine (K1.out _ ((Calm.refl _).alloc _)).mono ?_;rintro e w3 ⟨⟨VA,vc,rfl,hia⟩,hc3⟩)
           go_ret2
           exact⟨by rw[hE2.out];rfl,HC.out.trans (((Calm.refl _).alloc _).trans hc3)⟩
          ·have hE2:Hid (stepOf ss 3 t=0):=by show _=_;rw[hE.out,if_neg h6]
           have hd6:decide ((6:Int) < 1+(m:Int))=false:=by simp;omega
           go_wp2_with (go_at_call 57;refine (K1.out _ ((Calm.refl _).alloc _)).mono ?_;rintro e w3 ⟨⟨VA,vc,rfl,hia⟩,hc3⟩)
           go_roundw
           case rel=>exact⟨t+1,by omega,by go_num,snoc_zero hE2.out HQ.out,HC.out.trans (((Calm.refl _).alloc _).trans hc3)⟩
           case measure=>simp[intOf];omega
         ·obtain rfl:t=k:=by omega
          have HP4:Hid (∀j,j < 4→∀i,i < t→stepOf ss j i=0):=steps_snoc HP3.out HQ.out
          have HCD:=HC
          clear HQ HC HP3
          go_wp2_with fail
          go_loopw [128] (fun q wr=>∃k:Nat,k≤t∧q=.int .i64 k∧Hid (∀j,j < k→stepOf ss 4 j=0)∧Hid (Calm w wr)) (fun q _=>t - (intOf q).toNat)
          case atStart=>exact⟨0,Nat.zero_le _,rfl,fun j hj=>absurd hj (Nat.not_lt_zero _),HCD.out⟩
          case round=>
           obtain⟨k,hk,rfl,HQ,HC⟩:=hrel
           by_cases hlt:k < t
           ·obtain⟨bi,hbi⟩:∃bi,badImp ss k=bi:=⟨_,rfl⟩
            have K1:Hid (∀W,Calm wr W→Calls Tryz.prog 58 #[.slice A t c,.int .i64 k] W fun e w'=>e=.returned (.bool (!bi))∧Calm W w'):=fun W hW=>by
             have:=KI.out W k (HC.out.trans hW) hlt HOwn.out HPar.out
             rw[hbi] at this
             exact this
            have hE:Hid (stepOf ss 4 k=if bi then 85 else 0):=by
             show impErr ss k=_
             unfold impErr
             rw[hbi]
            clear hbi
            cases bi with
            |true=>
             simp only[Bool.not_true] at K1
             have hE2:Hid (strErr ss=(k,85)):=strErr_at HN.out h16n.out (by decide) HP4.out hlt hE.out (by decide) HQ.out
             go_wp2_with (go_at_call 58;refine (K1.out _ (Calm.refl _)).mono ?_;rintro e w3 ⟨rfl,hc3⟩)
             go_ret2
             exact⟨by rw[hE2.out];rfl,HC.out.trans hc3⟩
            |false=>
             simp only[Bool.not_false] at K1
             have hE2:Hid (stepOf ss 4 k=0):=hE
             go_wp2_with (go_at_call 58;refine (K1.out _ (Calm.refl _)).mono ?_;rintro e w3 ⟨rfl,hc3⟩)
             go_roundw
             case rel=>exact⟨k+1,by omega,by go_num,snoc_zero hE2.out HQ.out,HC.out.trans hc3⟩
             case measure=>simp[intOf];omega
           ·obtain rfl:k=t:=by omega
            have HP5:Hid (∀j,j < 5→∀i,i < k→stepOf ss j i=0):=steps_snoc HP4.out HQ.out
            go_wp2_with fail
            go_ret2
            exact⟨by rw[strErr_end HN.out h16n.out HP5.out];rfl,HC.out⟩
end Go.Proofs.YtdcdabbepnahnaaGreatDoor
