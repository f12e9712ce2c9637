/- Walks: a line's right path of a left path, program and reference. -/
import Derived.Test.YtcofdlipapnohaaGreatDoorZFill
import Derived.Test.YtcofdlipapnohaaGreatDoorZRSameG
set_option linter.unusedVariables false
set_option linter.unusedSimpArgs false
namespace Go.Proofs.YtcofdlipapnohaaGreatDoor
open Go Go.RowKit Sy
structure SmallV (r:Rule):Prop where
 lp:r.left.parts.length≤200
 ls:∀x∈r.left.parts,x.length≤250
 rp:r.right.parts.length≤200
 rs:∀x∈r.right.parts,x.length≤250
theorem SmallV.turn {r:Rule} (h:SmallV r):SmallV r.turn:=⟨h.rp,h.rs,h.lp,h.ls⟩
theorem SmallV.small {r:Rule} (h:SmallV r):SmallR r:=⟨by have:=h.lp;omega,fun x hx=>by have:=h.ls x hx;omega,by have:=h.rp;omega,fun x hx=>by have:=h.rs x hx;omega⟩
def fwdV (r:Rule) (s:Str):Value:=.tuple #[.string (bs ((fwd r s).getD [])),.bool (fwd r s).isSome]
theorem fwd_no {r:Rule} {s:Str} (h:matchS r.left s=false):fwd r s=none:=by
 unfold fwd
 split
 ·rename_i h0
  rcases hp:pathOf s with _ | l
  ·rfl
  ·rw[matchS,hp] at h
   simp only at h ⊢
   rw[okPat,(ruleErr_twin.1 h0).lp] at h
   have h':matchL r.left l=false:=by simpa using h
   rw[h']
   simp
 ·rfl
theorem fwd_err {r:Rule} {s:Str} (h:ruleErr r≠0):fwd r s=none:=by rw[fwd,if_neg h]
theorem fits_of {r:Rule} {s:Str} (h0:ruleErr r=0) (hm:matchS r.left s=true) (hs:s.length≤10000) :
  ∃cs rl,Fits r.right cs rl∧capsS r.left s=capsOf r.right cs rl∧fwd r s=some (fillS r.right cs rl):=by
 have tw:=ruleErr_twin.1 h0
 rcases hp:pathOf s with _ | l
 ·rw[matchS,hp] at hm
  cases hm
 ·have hm':=hm
  rw[matchS,hp] at hm'
  simp only at hm'
  rw[Bool.and_eq_true] at hm'
  have hml:=hm'.2
  have hml2:=hml
  rw[matchL_mR,Bool.and_eq_true] at hml2
  obtain⟨hr,hmr⟩:=hml2
  have hle:=reaches_le hr
  have hcap:capsTo r.left l r.left.parts.length=capsR r.left.parts l:=capsTo_capsR r.left.rest r.left.parts l hle
  obtain⟨h2,h3,h4⟩:=pathOf_some hp
  have hjl:(Lib.join l [47]).length≤10000:=by
   rw[h4] at hs
   simp only[pathStr,List.length_cons] at hs
   omega
  have hea:∀x∈l,x.length≤10000:=by
   have hh:l=slash (Lib.join l [47]):=(slash_join l (by rintro rfl;simp at h2) (fun x hx=>comp_no47 (List.all_eq_true.1 h3 x hx))).symm
   intro x hx
   rw[hh] at hx
   have:=slash_each _ x hx
   omega
  refine⟨capsTo r.left l r.left.parts.length,l.drop r.left.parts.length,⟨?_,?_,?_,capsTo_each hea _,?_⟩,?_,?_⟩
  ·rw[hcap,capsR_len _ _ hmr]
   exact tw.sn
  ·rw[hcap]
   exact capsR_comp _ _ hmr h3
  ·intro hre
   rw[←tw.rs] at hre
   unfold reaches at hr
   rw[hre] at hr
   simp only[if_true] at hr
   have:=of_decide_eq_true hr
   refine⟨fun e=>?_,List.all_eq_true.2 fun x hx=>List.all_eq_true.1 h3 x (List.mem_of_mem_drop hx)⟩
   have:=congrArg List.length e
   rw[List.length_drop] at this
   simp at this
   omega
  ·have:=join_drop_le r.left.parts.length l
   omega
  ·rw[capsS_yes hp hm,caps,capsOf,tw.rs]
  ·rw[fwd,if_pos h0,hp]
   simp only
   rw[if_pos hml]
   rfl
set_option maxHeartbeats 2000000 in
theorem trans_c (r:Rule) (a:Pl) (s:Str) (w:World) (hr:RuleU w a r) (hsm:SmallV r) (hs:s.length≤10000) (h0:ruleErr r=0) (hM:MaxL w) :
  Calls Tryz.prog 180 #[.agg #[.slice a.AL r.left.parts.length a.cl,.bool r.left.rest],.agg #[.slice a.AR r.right.parts.length a.cr,.bool r.right.rest],.string (bs s)] w fun e w'=>e=.returned (fwdV r s)∧Calm w w':=by
 obtain⟨nl,hnl⟩:∃nl,r.left.parts.length=nl:=⟨_,rfl⟩
 obtain⟨nr,hnr⟩:∃nr,r.right.parts.length=nr:=⟨_,rfl⟩
 obtain⟨lr,hlr⟩:∃lr,r.left.rest=lr:=⟨_,rfl⟩
 obtain⟨rr,hrr⟩:∃rr,r.right.rest=rr:=⟨_,rfl⟩
 obtain⟨w1,hw1⟩:∃w1,w1=(w.alloc (.cells #[.slice a.AL nl a.cl,.bool lr] 65)).alloc (.cells #[.slice a.AR nr a.cr,.bool rr] 65):=⟨_,rfl⟩
 have hc1:Calm w w1:=by rw[hw1];exact ((Calm.refl w).alloc _).alloc _
 have hs1:w.heap.size+1 < w1.heap.size:=by rw[hw1];simp
 have k2:w1.cell? ⟨w.heap.size+1,0,none⟩=some (.slice a.AR nr a.cr):=by rw[hw1];simp
 have k3:w1.cell? ⟨w.heap.size+1,1,none⟩=some (.bool rr):=by rw[hw1];simp
 have hru:=hr.calm hc1
 have hmt:=match_c r.left s a.AL a.cl w1 hs (hru.left hsm.small) hru.lroom hru.lcap (hM.calm hc1)
 rw[hnl,hlr] at hmt
 rw[hnl,hnr,hlr,hrr]
 have HW:=Lib.hid hw1
 have HC:=Lib.hid hc1
 have HN:=Lib.hid (And.intro hnl (And.intro hnr (And.intro hlr hrr)))
 have HR:=Lib.hid hru
 have HM:=Lib.hid (hM.calm hc1)
 have HSm:=Lib.hid hsm
 have HK:=Lib.hid (And.intro k2 k3)
 rcases hm:matchS r.left s with _ | _
 ·have hf:Hid (fwdV r s=.tuple #[.string (bs []),.bool false]):=by
   show fwdV r s=_
   rw[fwdV,fwd_no hm]
   rfl
  have hq:Calls Tryz.prog 183 #[.agg #[.slice a.AL nl a.cl,.bool lr],.string (bs s)] w1 fun e w'=>e=.returned (.tuple #[.slice none 0 0,.bool false])∧Calm w1 w':=hmt.mono fun e w' ⟨h1,h2⟩=>by
   rcases h1 with⟨h3,_⟩ | ⟨_,h3⟩
   ·rw[hm] at h3
    cases h3
   ·exact⟨h3,h2⟩
  clear hmt hm h0 hru hw1 hc1 hr hnl hnr hlr hrr hM k2 k3 hsm
  go_enter Tryz.func180,Tryz.ntmps180
  go_wp2_with (go_at_call 183;rw[←HW.out];refine hq.mono ?_;rintro e w2 ⟨rfl,hc2⟩)
  go_ret2
  exact⟨by rw[hf.out];rfl,HC.out.trans hc2⟩
 ·obtain⟨cs,rl,hfit,hcap,hfw⟩:=fits_of h0 hm hs
  have hf:Hid (fwdV r s=.tuple #[.string (bs (fillS r.right cs rl)),.bool true]):=by
   show fwdV r s=_
   rw[fwdV,hfw]
   rfl
  obtain⟨m,hmm⟩:∃m,(capsOf r.right cs rl).length=m:=⟨_,rfl⟩
  have hq:Calls Tryz.prog 183 #[.agg #[.slice a.AL nl a.cl,.bool lr],.string (bs s)] w1 fun e w'=>∃CA cc,e=.returned (.tuple #[.slice CA m cc,.bool true])∧m≤cc∧cc≤9223372036854775807∧StrsR w' CA (capsOf r.right cs rl)∧Calm w1 w':=hmt.mono fun e w' ⟨h1,h2⟩=>by
   rcases h1 with⟨_,CA,cc,h3,h4,h5,h6⟩ | ⟨h3,_⟩
   ·rw[hcap,hmm] at h3 h4
    rw[hcap] at h5
    exact⟨CA,cc,h3,h4,h6,h5,h2⟩
   ·rw[hm] at h3
    cases h3
  have tw:=ruleErr_twin.1 h0
  have KF:Hid (∀W CA cc,Calm w1 W→m≤cc→cc≤9223372036854775807→StrsR W CA (capsOf r.right cs rl)→Calls Tryz.prog 216 #[.agg #[.slice a.AR nr a.cr,.bool rr],.slice CA m cc] W fun e w'=>e=.returned (.tuple #[.string (bs (fillS r.right cs rl)),.int .i64 0])∧Calm W w'):=fun W CA cc hW h4 h5 h6=>by
   have h:=HR.out.calm hW
   have:=fill_c r.right cs rl a.AR a.cr CA cc W tw.rp (h.right HSm.out.small) (fun x hx=>by have:=HSm.out.rs x hx;omega) h.rroom h.rcap hfit h6 (by rw[hmm];exact h4) h5 (HM.out.calm hW)
   rw[hmm,HN.out.2.1,HN.out.2.2.2] at this
   exact this
  clear hmt hm h0 hru hw1 hc1 hr hnl hnr hlr hrr hM k2 k3 hsm tw hfit hcap hfw hmm
  go_enter Tryz.func180,Tryz.ntmps180
  go_wp2_with (go_at_call 183;rw[←HW.out];refine hq.mono ?_;rintro e w2 ⟨CA,cc,rfl,hcc,hcc2,hst,hc2⟩;have r2:=hc2.at_ HK.out.1 hs1;have r3:=hc2.at_ HK.out.2 hs1;have hfl:=KF.out w2 CA cc hc2 hcc hcc2 hst)
  go_wp2_with (go_at_call 216;refine hfl.mono ?_;rintro e w3 ⟨rfl,hc3⟩)
  go_ret2
  exact⟨by rw[hf.out];rfl,HC.out.trans (hc2.trans hc3)⟩
set_option maxHeartbeats 2000000 in
theorem fwd_c (r:Rule) (a:Pl) (s:Str) (w:World) (hr:RuleU w a r) (hsm:SmallV r) (hs:s.length≤10000) (hM:MaxL w) :
  Calls Tryz.prog 136 #[ruleV a r,.string (bs s)] w fun e w'=>e=.returned (fwdV r s)∧Calm w w':=by
 obtain⟨nl,hnl⟩:∃nl,r.left.parts.length=nl:=⟨_,rfl⟩
 obtain⟨nr,hnr⟩:∃nr,r.right.parts.length=nr:=⟨_,rfl⟩
 obtain⟨lr,hlr⟩:∃lr,r.left.rest=lr:=⟨_,rfl⟩
 obtain⟨rr,hrr⟩:∃rr,r.right.rest=rr:=⟨_,rfl⟩
 obtain⟨ex,hex⟩:∃ex,r.excl=ex:=⟨_,rfl⟩
 obtain⟨w1,hw1⟩:∃w1,w1=w.alloc (.cells #[.bool ex,.slice a.AL nl a.cl,.bool lr,.slice a.AR nr a.cr,.bool rr] 158):=⟨_,rfl⟩
 have hc1:Calm w w1:=by rw[hw1];exact (Calm.refl w).alloc _
 have hbox:BoxR w1 w.heap.size a r nl nr lr rr ex:=by rw[hw1];exact⟨by simp,by simp,by simp,by simp,by simp,by simp⟩
 have hru:=hr.calm hc1
 obtain⟨v,hv⟩:∃v,ruleErr r=v:=⟨_,rfl⟩
 have hk:=rule_c r a w1 hru
 unfold ruleV at hk ⊢
 rw[hnl,hnr,hlr,hrr,hex] at hk ⊢
 rw[hv] at hk
 have HW:=Lib.hid hw1
 have HC:=Lib.hid hc1
 have HB:=Lib.hid hbox
 have KT:v=0→Hid (∀W,Calm w1 W→Calls Tryz.prog 180 #[.agg #[.slice a.AL nl a.cl,.bool lr],.agg #[.slice a.AR nr a.cr,.bool rr],.string (bs s)] W fun e w'=>e=.returned (fwdV r s)∧Calm W w'):=fun hv0 W hW=>by
  have:=trans_c r a s W (hru.calm hW) hsm hs (by rw[hv,hv0]) ((hM.calm hc1).calm hW)
  rw[hnl,hnr,hlr,hrr] at this
  exact this
 have hno:v≠0→Hid (fwdV r s=.tuple #[.string (bs []),.bool false]):=fun h=>by
  show fwdV r s=_
  rw[fwdV,fwd_err (by rw[hv];exact h)]
  rfl
 have hfv:Hid (fwdV r s=.tuple #[.string (bs ((fwd r s).getD [])),.bool (fwd r s).isSome]):=rfl
 have HFv:=hfv
 clear hw1 hc1 hbox hru hr hM hsm hs hnl hnr hlr hrr hex hv hfv
 generalize bs ((fwd r s).getD [])=fs at HFv
 generalize (fwd r s).isSome=fb at HFv
 go_enter Tryz.func136,Tryz.ntmps136
 by_cases hv0:v=0
 ·subst hv0
  have KT2:=KT rfl
  rw[HFv.out] at KT2
  clear KT hno
  go_wp2_with fail
  rw[←HW.out]
  refine hk.mono ?_
  rintro e w2 ⟨rfl,hc2⟩
  have d2:=HB.out.calm hc2
  have e1:=d2.c1
  have e2:=d2.c2
  have e3:=d2.c3
  have e4:=d2.c4
  have hft:=KT2.out w2 hc2
  clear hk KT2
  go_wp2_with (go_at_call 180;refine hft.mono ?_;rintro e w3 ⟨rfl,hc3⟩)
  go_ret2
  exact⟨by rw[HFv.out];rfl,HC.out.trans (hc2.trans hc3)⟩
 ·have hf:=hno hv0
  have hvb:(v != 0)=true:=by simpa using hv0
  clear KT hno hv0
  go_wp2_with fail
  rw[←HW.out]
  refine hk.mono ?_
  rintro e w2 ⟨rfl,hc2⟩
  go_wp2
  go_ret2
  exact⟨by rw[hf.out];rfl,HC.out.trans hc2⟩
end Go.Proofs.YtcofdlipapnohaaGreatDoor
