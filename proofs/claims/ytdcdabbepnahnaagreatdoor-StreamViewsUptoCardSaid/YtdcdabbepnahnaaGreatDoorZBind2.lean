/- Walk: pattern.Bind. -/
import Derived.Test.YtdcdabbepnahnaaGreatDoorZBindW
set_option linter.unusedVariables false
set_option linter.unusedSimpArgs false
namespace Go.Proofs.YtdcdabbepnahnaaGreatDoor
open Go Go.RowKit Sy
theorem trimS_c (l m:Str) (w:World) (hl:l.length≤140737488355328):Calls Tryz.prog 161 #[.string (bs l),.string (bs m)] w fun e w'=>e=.returned (.string (bs (Lib.trimSuffix l m)))∧w=w':=
 (Tryz.strings_TrimSuffix (bs l) (bs m) w (by rw[bs_size];omega)).mono fun _ _ ⟨he,hw⟩=>⟨by rw[he,bs_toList,bs_toList];rfl,hw.symm⟩
theorem binds_end {w2 wr:World} {v:Value} {ys:List NewP} {bs:List Pat} (h:OwnX encP 2 201 w2 wr v ys) (hm:ys.map (·.p)=bs) (hp:∀y∈ys,PatA wr y.A y.c y.p):∃A2 c2,v=.slice A2 bs.length c2∧BindsR wr A2 bs∧bs.length≤c2∧c2≤9223372036854775807:=by
 subst hm
 rcases h.row encP_len with⟨rfl,h0⟩ | ⟨g,c,rfl,h1,h2,_,hr⟩
 ·subst h0
  exact⟨none,0,rfl,⟨[],rfl,fun h=>absurd rfl h,fun y hy=>by cases hy⟩,Nat.le_refl _,by omega⟩
 ·refine⟨_,c,by rw[List.length_map],⟨ys,rfl,fun _=>⟨g,0,rfl,hr.lt,fun k x hk i u hu=>hr.cell k x hk i u hu⟩,hp⟩,by rw[List.length_map];exact h1,h2⟩
set_option maxRecDepth 100000 in
set_option maxHeartbeats 8000000 in
theorem bind_c (p q:Pat) (n m c c':Nat) (re rf:Bool) (A A':Option Addr) (w:World) (hp:PatA w A c p) (hq:PatA w A' c' q) (ep:patErr p=0) (eq:patErr q=0) (hn:p.parts.length=n) (hm:q.parts.length=m) (hre:p.rest=re) (hrf:q.rest=rf) (hin:insideP q p=true) :
  Calls Tryz.prog 122 #[.agg #[.slice A n c,.bool re],.agg #[.slice A' m c',.bool rf]] w fun e w'=>(∃A2 c2,e=.returned (.tuple #[.slice A2 (bindP p q).length c2,.bool true])∧BindsR w' A2 (bindP p q)∧(bindP p q).length≤c2∧c2≤9223372036854775807)∧Calm w w':=by
 have hnl:=hp.r.len
 have hml:=hq.r.len
 rw[hn] at hnl
 rw[hm] at hml
 obtain⟨hnm,hir⟩:=insideP_inR hin
 rw[hn,hm] at hnm
 have hm0:0 < m:=by have:=(patErr_form eq).1;omega
 obtain⟨w1,hw1⟩:∃w1,w1=(w.alloc (.cells #[.slice A n c,.bool re] 51)).alloc (.cells #[.slice A' m c',.bool rf] 51):=⟨_,rfl⟩
 have hc1:Calm w w1:=by rw[hw1];exact ((Calm.refl w).alloc _).alloc _
 have hbox:BoxP w1 w.heap.size A n c re A' m c' rf:=by
  rw[hw1]
  exact⟨by simp,by simp[go_sem],by simp[go_sem],by simp[go_sem],by simp[go_sem]⟩
 have KWi:Hid (∀W,Calm w1 W→Calls Tryz.prog 160 #[.agg #[.slice A' m c',.bool rf],.agg #[.slice A n c,.bool re]] W fun e w'=>e=.returned (.bool true)∧Calm W w'):=fun W hW=>within_p q p m n c' c rf re A' A W ((hq.calm hc1).calm hW) ((hp.calm hc1).calm hW) eq ep hm hn hrf hre hin
 have KC:Hid (∀W,Calm w1 W→Calls Tryz.prog 112 #[.slice A' m c'] W fun e w'=>(∃A2 c2,e=.returned (.slice A2 m c2)∧NewS w' W.heap.size A2 c2 q.parts)∧Calm W w'):=fun W hW=>by
  have:=clone_c q.parts A' c' W ((hq.calm hc1).calm hW).r.toU
  unfold CloneEnd at this
  rw[hm] at this
  exact this
 have hin2:∀j,j < n→inside (pAt q j) (pAt p j)=true:=fun j hj=>((insideP_iff (allOk_of eq)).1 hin).2 j
 have HIn:=Lib.hid hin2
 have HW:=Lib.hid hw1
 have HC:=Lib.hid hc1
 have HB:=Lib.hid hbox
 have HN:=Lib.hid (And.intro hn (And.intro hm (And.intro hre hrf)))
 have HP:=Lib.hid (hp.calm hc1)
 have HQ:=Lib.hid (hq.calm hc1)
 have HEp:=Lib.hid ep
 have HEq:=Lib.hid eq
 clear hw1 hc1 hbox hn hm hre hrf hp hq ep eq hin hir hin2
 go_enter Tryz.func122,Tryz.ntmps122
 go_wp2_with (go_at_call 160;rw[←HW.out];refine (KWi.out w1 (Calm.refl _)).mono ?_;rintro e w2 ⟨rfl,hc2⟩;have b2:=HB.out.calm hc2;have y0:=b2.y0)
 refine (KC.out w2 hc2).mono ?_
 rintro e w3 ⟨⟨TA,tc,rfl,hN3⟩,hc3⟩
 obtain⟨T,o,x0,hTA,hTB,_,_,_⟩:=hN3.get (k:=0) (by rw[HN.out.2.1];exact hm0)
 subst hTA
 have hroom:=hN3.room
 rw[HN.out.2.1] at hroom
 have hcap:=hN3.cap
 have HC2:=Lib.hid hc2
 have HC3:=Lib.hid hc3
 have HN3:Hid (NewS w3 w2.heap.size (some ⟨T,o,none⟩) tc (trimL p q 0)):=by rw[trimL_zero];exact hN3
 have b3:=HB.out.calm (hc2.trans hc3)
 have x0:=b3.x0
 have hszw:w.heap.size+2≤w2.heap.size:=Nat.le_trans HB.out.size hc2.size
 clear hN3 hc3 b3 b2 y0 KWi KC
 go_wp2_with fail
 go_loopw [7,21] (fun v u wr=>∃(k:Nat) (ys:List NewP),k≤n∧u=.int .i64 k∧Hid (OwnX encP 2 201 w2 wr v ys)∧Hid (CapsAt T o p q k ys)∧Hid (NewS wr w2.heap.size (some ⟨T,o,none⟩) tc (trimL p q k))) (fun _ u _=>n - (intOf u).toNat)
 case atStart=>exact⟨0,[],Nat.zero_le _,rfl,OwnX.nil HC3.out,CapsAt.nil _ _ _ _,HN3.out⟩
 case round=>
  obtain⟨k,ys,hk,rfl,HO,HCa,HT⟩:=hrel
  obtain⟨wq,rfl⟩:∃wq,wq=wr:=⟨_,rfl⟩
  have HCw:Hid (Calm w1 wq):=HC2.out.trans HO.out.calm
  by_cases hlt:k < n
  ·obtain⟨b,ob,x,rfl,hb,hx,hxl,hcx⟩:=(HP.out.calm HCw.out).r.get (k:=k) (by rw[HN.out.1];exact hlt)
   have hxe:x=pAt p k:=by
    rw[pAt_get (by rw[HN.out.1];exact hlt)] at hx
    exact (Option.some.inj hx).symm
   have HXe:=Lib.hid hxe
   have hxs:=bs_size x
   obtain⟨st,hst⟩:∃st,isStar x=st:=⟨_,rfl⟩
   have KS:Hid (∀W,Calls Tryz.prog 119 #[.string (bs x)] W fun e w'=>e=.returned (.bool st)∧W=w'):=fun W=>isStar_v x st W hst
   have HSt:=Lib.hid hst
   clear hx hxe hst
   cases st with
   |false=>
    go_wp2_with (go_at_call 119;refine (KS.out _).mono ?_;rintro e w4 ⟨rfl,rfl⟩)
    go_roundw
    case rel=>exact⟨k+1,ys,by omega,by go_num,HO.out,HCa.out.lit (by rw[←HXe.out];exact HSt.out),by
     show NewS _ _ _ _ _
     rw[trimL_lit (by rw[←HXe.out];exact HSt.out)]
     exact HT.out⟩
    case measure=>simp[intOf];omega
   |true=>
    have hkm:k < m:=by omega
    obtain⟨T',o',y,e9,hTB',hy,hyl,hcy⟩:=HT.out.get (k:=k) (by rw[trimL_len,HN.out.2.1];exact hkm)
    obtain⟨rfl,rfl⟩:T=T'∧o=o':=by simpa using e9
    have hye:y=q.parts.getD k []:=by
     rw[trimL_get (by rw[HN.out.2.1];exact hkm),if_neg (fun h=>by omega)] at hy
     exact (Option.some.inj hy).symm
    have hfr:=HT.out.free (o+k)
    have hgb:T < wq.heap.size:=by
     obtain⟨cs,hh⟩:=HT.out.row _ rfl
     exact heap_lt hh
    have hyq:pAt q k=y:=by
     rw[hye]
     unfold pAt
     rw[List.getD_eq_getElem?_getD,List.getD_eq_getElem?_getD,List.getElem?_eq_getElem (by rw[HN.out.2.1];exact hkm)]
     rfl
    have hz:Lib.trimSuffix y x.tail=cap1 x y:=trim_cap HSt.out (by rw[←hyq,HXe.out];exact HIn.out k hlt) (by rw[HXe.out];exact fun e=>by have:=HSt.out;rw[HXe.out,e] at this;cases this)
    obtain⟨z,hze⟩:∃z,cap1 x y=z:=⟨_,rfl⟩
    rw[hze] at hz
    have hyl2:y.length≤16384:=by
     rw[hye]
     exact HQ.out.r.each _ (List.mem_of_getElem? (getD_get (by rw[HN.out.2.1];exact hkm)))
    have hzl:z.length≤16384:=by rw[←hze];unfold cap1;rw[List.length_take];omega
    have KTr:Hid (∀W,Calls Tryz.prog 161 #[.string (bs y),.string (bs x.tail)] W fun e w'=>e=.returned (.string (bs z))∧W=w'):=fun W=>by
     have:=trimS_c y x.tail W (by omega)
     rw[hz] at this
     exact this
    have hx1:1≤x.length:=by
     cases x with
     |nil=>have:=HSt.out;cases this
     |cons a r=>simp
    have hex:(bs x).extract 1 x.length=bs x.tail:=bs_drop1 x _ rfl
    have HZe:Hid (cap1 (pAt p k) (q.parts.getD k [])=z):=by show _=_;rw[←HXe.out,←hye,hze]
    have hb1:(1:Int)≤(x.length:Int):=by omega
    clear hy hye hyq hz hze e9
    go_wp2_with (go_at_call 119;refine (KS.out _).mono ?_;rintro e w4 ⟨rfl,rfl⟩)
    go_region_with (go_at_call 161;refine (KTr.out _).mono ?_;rintro e w5 ⟨rfl,rfl⟩)
    obtain⟨w6,hw6⟩:∃w6,w6=(wq.setCell ⟨T,o+k,none⟩ (.string (bs z))).drew:=⟨_,rfl⟩
    rw[←hw6]
    have HO6:Hid (OwnX encP 2 201 w2 w6 u7 ys):=by
     show OwnX _ _ _ _ _ _ _
     rw[hw6]
     have hrowT:∃cs,wq.heap[T]?=some (.cells cs 9 (0,0)):=HT.out.row _ rfl
     exact (HO.out.setX (p:=⟨T,o+k,none⟩) _ hTB (HO.out.kindne (by decide) hrowT)).to (Below.drew (Calm.refl _))
    have HT6:Hid (NewS w6 w2.heap.size (some ⟨T,o,none⟩) tc (trimL p q (k+1))):=by
     show NewS _ _ _ _ _
     rw[hw6,trimL_star (by rw[←HXe.out];exact HSt.out) (by rw[HN.out.2.1];exact hkm),HZe.out]
     exact (HT.out.put (k:=k) (z:=z) (by rw[trimL_len,HN.out.2.1];exact hkm) (by omega)).calm (Below.drew (Calm.refl _))
    have hmc:k+1≤tc:=by omega
    have hyk:=HCa.out.len
    clear hw6 hfr hcy hcx
    go_wp2_with (at_builtin;refine wpList_append_xs (enc:=encP) (K:=2) (T:=201) Tryz.underlying165 info_bind rfl (by decide) (by decide) encP_len encP_one rfl (.tmp 38) (.tmp 47) rfl w2 _ ys [⟨some ⟨T,o+k,none⟩,1,⟨[z],false⟩⟩] rfl (HO6.out.to ((Calm.refl _).alloc _)) _ 1 1 rfl rfl (read_newB ⟨some ⟨T,o+k,none⟩,1,⟨[z],false⟩⟩ rfl rfl rfl) (by omega) ?_;intro v7 w7 hown7 hg7)
    go_roundw
    case rel=>
     refine⟨k+1,ys++[(⟨some ⟨T,o+k,none⟩,1,⟨[z],false⟩⟩:NewP)],by omega,by go_num,Lib.hid hown7,?_,?_⟩
     ·have:=HCa.out.star (by rw[←HXe.out];exact HSt.out)
      rw[HZe.out] at this
      exact this
     ·exact (HT6.out.calm ((Calm.refl _).alloc _)).grown (by decide) (HO6.out.to ((Calm.refl _).alloc _)).own hg7
    case measure=>simp[intOf];omega
  ·obtain rfl:k=n:=by omega
   have hb3:=HB.out.calm HCw.out
   have x0:=hb3.x0
   have x1:=hb3.x1
   have y1:=hb3.y1
   have HPt:Hid (∀y∈ys,PatA wq y.A y.c y.p):=fun y hy=>by
    obtain⟨j,hj,hs,rfl⟩:=HCa.out.2 y hy
    exact texts_pat HT.out hj hs (by rw[HN.out.2.1];omega) HQ.out.r.each
   cases re with
   |false=>
    have hbs:bindP p q=(capsTo p q.parts k).map (fun c=>(⟨[c],false⟩:Pat)):=by
     unfold bindP
     rw[HN.out.2.2.1,HN.out.1]
     simp
    obtain⟨A2,c2,rfl,h1,h2,h3⟩:=binds_end HO.out HCa.out.1 HPt.out
    rw[←hbs] at h1 h2 ⊢
    have HR:=Lib.hid (And.intro h1 (And.intro h2 h3))
    clear hb3 h1 h2 h3 hbs
    go_wp2_with fail
    go_ret2
    exact⟨⟨A2,c2,rfl,HR.out⟩,HC.out.trans HCw.out⟩
   |true=>
    have hbs:bindP p q=(capsTo p q.parts k).map (fun c=>(⟨[c],false⟩:Pat))++[⟨q.parts.drop k,rf⟩]:=by
     unfold bindP
     rw[HN.out.2.2.1,HN.out.1,if_pos rfl,HN.out.2.2.2]
    have hyk:=HCa.out.len
    have HY1:=Lib.hid (And.intro y1 hb3.size)
    obtain⟨Av,cv,hv⟩:=HO.out.len_shape
    obtain⟨L,hL⟩:∃L,ys.length=L:=⟨_,rfl⟩
    rw[hL] at hv hyk
    subst hv
    have HLn:=Lib.hid hL
    have hdl:(q.parts.drop k).length=m - k:=by rw[List.length_drop,HN.out.2.1]
    obtain⟨Ar,hAre⟩:∃Ar,(if m=k then some (⟨T,o,none⟩:Addr) else some ⟨T,o+k,none⟩)=Ar:=⟨_,rfl⟩
    have HD:=Lib.hid hdl
    have HAe:=Lib.hid hAre
    clear hb3 hdl hL hAre
    go_wp2_with fail
    go_region_law ((refine step_append_xs (enc:=encP) (K:=2) (T:=201) Tryz.underlying165 info_bind rfl (by decide) (by decide) encP_len encP_one rfl (.tmp 55) (.tmp 66) rfl w2 (.slice Av L cv) ys [⟨if m=k then some (⟨T,o,none⟩:Addr) else some ⟨T,o+k,none⟩,m - k,⟨q.parts.drop k,rf⟩⟩] (by simp[Act.eval,Act.put]) (HO.out.to (by first | exact Below.drew ((Calm.refl _).alloc _) | exact (Below.drew (Calm.refl _)).alloc _ | exact (Calm.refl _).alloc _)) _ 1 1 rfl rfl ((read_newB ⟨if m=k then some (⟨T,o,none⟩:Addr) else some ⟨T,o+k,none⟩,m - k,⟨q.parts.drop k,rf⟩⟩ rfl HD.out rfl).calm (Below.drew (Calm.refl _))) (by rw[HLn.out];omega) ?_;intro v8 w8 hown8 hg8))
    have HT8:NewS w8 w2.heap.size (some ⟨T,o,none⟩) tc (trimL p q k):=(HT.out.calm (Below.drew ((Calm.refl _).alloc _))).grown (by decide) (HO.out.to (Below.drew ((Calm.refl _).alloc _))).own hg8
    rw[HAe.out] at hown8
    obtain⟨A2,c2,rfl,h1,h2,h3⟩:=binds_end (bs:=bindP p q) hown8 (by rw[hbs,List.map_append,HCa.out.1];rfl) (fun y hy=>by
     rcases List.mem_append.1 hy with hy | hy
     ·obtain⟨j,hj,hs,rfl⟩:=HCa.out.2 y hy
      exact texts_pat HT8 hj hs (by rw[HN.out.2.1];omega) HQ.out.r.each
     ·rw[List.mem_singleton] at hy
      subst hy
      have:=texts_rest (p:=p) (m:=q) Ar (m - k) HT8 HN.out.1 (fun h=>by rw[HN.out.2.1] at h;rw[←HAe.out,if_neg (by omega)]) HQ.out.r.each (by rw[HN.out.2.1];omega) (by rw[HN.out.2.1];exact Nat.le_refl _) (by omega)
      rw[HN.out.2.2.2] at this
      exact this)
    have HR:=Lib.hid (And.intro h1 (And.intro h2 h3))
    have HC8:Hid (Calm w w8):=HC.out.trans (HC2.out.trans hown8.calm)
    clear hbs h1 h2 h3 hown8 hg8
    simp only[List.getElem_toArray,List.getElem_cons_succ,List.getElem_cons_zero,Act.put,List.setIfInBounds_toArray,List.set_cons_succ,List.set_cons_zero]
    go_wp2_with fail
    all_goals
     go_ret2
     exact⟨⟨A2,c2,rfl,HR.out⟩,HC8.out⟩
end Go.Proofs.YtdcdabbepnahnaaGreatDoor
