/- Walks: the reference's Meet (written by program: gen_rmeet.py). -/
import Derived.Deep.RegionLaw
import Derived.Test.YtdcdabbepnahnaaGreatDoorZRefA
import Derived.Test.YtdcdabbepnahnaaGreatDoorZAppS
set_option linter.unusedVariables false
set_option linter.unusedSimpArgs false
namespace Go.Proofs.YtdcdabbepnahnaaGreatDoor
open Go Go.RowKit Sy
def mTo (p q:Pat) (k:Nat):List Str:=(List.range k).map fun j=>mPart (pAt p j) (pAt q j)
theorem mTo_succ (p q:Pat) (k:Nat):mTo p q (k+1)=mTo p q k++[mPart (pAt p k) (pAt q k)]:=by simp[mTo,List.range_succ]
theorem mTo_len (p q:Pat) (k:Nat):(mTo p q k).length=k:=by simp[mTo]
theorem mTo_end {p q:Pat} {n:Nat} (hn:p.parts.length=n) (hl:q.parts.length≤n):mTo p q n=(mPat p q).parts:=by
 unfold mTo mPat
 rw[hn,Nat.max_eq_left hl]
theorem pAt_far {p:Pat} {j:Nat} (h:p.parts.length≤j):pAt p j=[42]:=by
 unfold pAt
 rw[List.getD_eq_getElem?_getD,List.getElem?_eq_none h]
 rfl
theorem mPart_far {p q:Pat} (hp:allOk p) {j:Nat} (hj:j < p.parts.length) (hq:q.parts.length≤j):mPart (pAt p j) (pAt q j)=pAt p j∧canMeet (pAt p j) (pAt q j)=true:=by
 have h1:inside (pAt p j) [42]=true:=inside_any (partOk_ne (hp _ (List.mem_of_getElem? (pAt_get hj))))
 rw[pAt_far hq]
 exact⟨by rw[mPart,h1];rfl,by rw[canMeet,h1];rfl⟩
structure MTo (w0 wr:World) (Bg:Nat) (re:Bool) (hv:Value) (hl:List Str):Prop where
 own:OwnS w0 wr hv hl
 ge:w0.heap.size≤Bg
 kind:∃cs,wr.heap[Bg]?=some (.cells cs 51 (0,0))
 c0:wr.cell? ⟨Bg,0,none⟩=some hv
 c1:wr.cell? ⟨Bg,1,none⟩=some (.bool re)
theorem MTo.lt {w0 wr:World} {Bg:Nat} {re:Bool} {hv:Value} {hl:List Str} (h:MTo w0 wr Bg re hv hl):Bg < wr.heap.size:=by
 obtain⟨cs,hh⟩:=h.kind
 exact heap_lt hh
theorem MTo.calm {w0 wr w2:World} {Bg:Nat} {re:Bool} {hv:Value} {hl:List Str} (h:MTo w0 wr Bg re hv hl) (hc:Calm wr w2):MTo w0 w2 Bg re hv hl:=
 ⟨h.own.to hc,h.ge,by obtain⟨cs,hh⟩:=h.kind;exact⟨cs,(hc.block _ h.lt).trans hh⟩,Calm.at_ hc h.c0 h.lt,Calm.at_ hc h.c1 h.lt⟩
theorem OwnS.kindne {w0 w:World} {v:Value} {l:List Str} (h:OwnS w0 w v l) {b:Nat} {T:TypeId} (hT:T≠9) (hk:∃cs,w.heap[b]?=some (.cells cs T (0,0))):some b≠v.ownBlock:=fun e=>by
 obtain⟨cs,hh⟩:=hk
 rcases h.own.2 with⟨rfl,_⟩ | ⟨g,cap,cur,rfl,_,hgh,_⟩
 ·simp[Value.ownBlock] at e
 ·have e2:b=g:=by simpa[Value.ownBlock] using e
  rw[e2,hgh] at hh
  injection hh with hh
  injection hh with _ ht
  exact absurd ht.symm hT
theorem OwnS.put_far {w0 w:World} {v:Value} {l:List Str} (h:OwnS w0 w v l) {p:Addr} (u:Value) (hge:w0.heap.size≤p.block) (hne:some p.block≠v.ownBlock):OwnS w0 (w.setCell p u) v l:=by
 refine⟨Below.setCell h.calm hge _,h.own.1,?_⟩
 rcases h.own.2 with h2 | ⟨g,cap,cur,hv,hg,hh,r⟩
 ·exact .inl h2
 ·refine .inr ⟨g,cap,cur,hv,hg,?_,r⟩
  rw[Deep.blk_setCell_other _ _ _ _ (fun e=>hne (by rw[←e,hv];rfl))]
  exact hh
theorem OwnS.shape {w0 w:World} {v:Value} {l:List Str} (h:OwnS w0 w v l):∃A n c,v=.slice A n c:=by
 rcases h.own.2 with⟨rfl,_⟩ | ⟨g,cap,cur,rfl,_⟩
 ·exact⟨_,_,_,rfl⟩
 ·exact⟨_,_,_,rfl⟩
theorem MTo.after {w0 wr w2 w3:World} {Bg:Nat} {re:Bool} {hv:Value} {hl:List Str} (h:MTo w0 wr Bg re hv hl) (hc:Calm wr w2) (hg:w2.grownBy w3 hv.ownBlock):w3.cell? ⟨Bg,0,none⟩=some hv∧w3.frozen? ⟨Bg,0,none⟩=false:=by
 have h2:=h.calm hc
 have hb:=hg.block Bg h2.lt (h2.own.kindne (by decide) h2.kind)
 refine⟨(World.cell?_of_block (a:=⟨Bg,0,none⟩) hb).trans h2.c0,(World.frozen?_of_block (a:=⟨Bg,0,none⟩) hb).trans ?_⟩
 obtain⟨cs,hh⟩:=h2.kind
 exact frozen_of_row w2 _ _ cs _ hh
theorem MTo.put {w0 wr w2 w3:World} {Bg:Nat} {re:Bool} {hv v:Value} {hl hl':List Str} (h:MTo w0 wr Bg re hv hl) (hc:Calm wr w2) (hown:OwnS w0 w3 v hl') (hg:w2.grownBy w3 hv.ownBlock):MTo w0 (w3.setCell ⟨Bg,0,none⟩ v) Bg re v hl':=by
 have h2:=h.calm hc
 have hb:=hg.block Bg h2.lt (h2.own.kindne (by decide) h2.kind)
 have hk3:∃cs,w3.heap[Bg]?=some (.cells cs 51 (0,0)):=by
  obtain⟨cs,hh⟩:=h2.kind
  exact⟨cs,hb.trans hh⟩
 have hne:=hown.kindne (by decide) hk3
 have c3:∀o,w3.cell? ⟨Bg,o,none⟩=w2.cell? ⟨Bg,o,none⟩:=fun o=>World.cell?_of_block (a:=⟨Bg,o,none⟩) hb
 refine⟨hown.put_far (p:=⟨Bg,0,none⟩) v h.ge hne,h.ge,?_,?_,?_⟩
 ·obtain⟨cs,hh⟩:=hk3
  exact⟨cs.setIfInBounds 0 v,by simp[World.setCell,Array.getElem?_modify,hh]⟩
 ·exact World.cell?_setCell_same' _ _ _ (by rw[c3 0,h2.c0];rfl)
 ·exact (World.cell?_setCell_other _ _ _ _ (by simp)).trans ((c3 1).trans h2.c1)
theorem step_append_s {ops:Array Oper} {o:Oper} {a:Act} {w:World} {K:Act→World→Prop} {Q:Exit→Act→World→Prop} {E:Prop}
  (hg:o.guard=none) (s x:Operand) (hop:o.op=Op.call { callee:=Callee.builtin Builtin.append,args:=#[s,x],argTypes:=#[41,41] })
  (w0:World) (v:Value) (ls:List Str) (hs:a.eval s=v) (hown:OwnS w0 w v ls) (b off c:Nat) (hx:a.eval x=.slice (some ⟨b,off,none⟩) 1 c) (l:Str) (hcell:w.cell? ⟨b,off,none⟩=some (.string (bs l))) (hlen:ls.length≤1000000)
  (hK:∀v' w',OwnS w0 w' v' (ls++[l])→w.grownBy w' v.ownBlock→K (a.put o.dst v') w') :
  if Region.wanted o (yielded ops a.tmps)=true then Oper.wp Tryz.prog o a w K Q else E:=by
 have hw:Region.wanted o (yielded ops a.tmps)=true:=by simp[Region.wanted,hg]
 rw[if_pos hw]
 obtain⟨v',w',hr,h2,h3,_⟩:=run_append_blk o.type hown.own hcell hlen hown.calm.size
 unfold Oper.wp
 simp[execOp,hop,resolve,invoke,builtin,hs,hx,Result.andThen]
 rw[hr]
 exact hK v' w' ⟨Below.trans hown.calm (owns_below hown.own hown.calm.size h3),by rw[List.length_append];simpa[strCells] using h2⟩ h3
theorem rmeet_rest {p q:Pat} (hl:q.parts.length≤p.parts.length) (hc:compat p q=true):(p.rest && q.rest)=p.rest:=by
 have:=compat_iff.1 hc
 cases h1:p.rest <;> cases h2:q.rest <;> simp[h1,h2] at this ⊢
 omega
theorem pAt_lenM {p:Pat} (h:∀l∈p.parts,l.length≤16384) (j:Nat):(pAt p j).length≤16384:=by
 by_cases hj:j < p.parts.length
 ·exact h _ (List.mem_of_getElem? (pAt_get hj))
 ·rw[pAt_far (by omega)]
  decide
set_option maxHeartbeats 16000000 in
theorem rmeet_long (p q:Pat) (A A':Option Addr) (c c':Nat) (w:World) (hp:PatA w A c p) (hq:PatA w A' c' q) (ep:patErr p=0) (eq:patErr q=0) (hl:q.parts.length≤p.parts.length) (hcm:compat p q=true) :
  Calls Tryz.prog 97 #[.agg #[.slice A p.parts.length c,.bool p.rest],.agg #[.slice A' q.parts.length c',.bool q.rest]] w fun e w'=>MeetEnd p q w.heap.size e w'∧Calm w w':=by
 obtain⟨n,hn⟩:∃n,p.parts.length=n:=⟨_,rfl⟩
 obtain⟨m,hm⟩:∃m,q.parts.length=m:=⟨_,rfl⟩
 obtain⟨re,hre⟩:∃re,p.rest=re:=⟨_,rfl⟩
 obtain⟨rf,hrf⟩:∃rf,q.rest=rf:=⟨_,rfl⟩
 have hnl:=hp.r.len
 have hml:=hq.r.len
 obtain⟨w1,hw1⟩:∃w1,w1=((w.alloc (.cells #[.slice A n c,.bool re] 51)).alloc (.cells #[.slice A' m c',.bool rf] 51)).alloc (.cells #[.slice none 0 0,.bool false] 51):=⟨_,rfl⟩
 have hc1:Calm w w1:=by rw[hw1];exact (((Calm.refl w).alloc _).alloc _).alloc _
 have hbox:Box3 w1 w.heap.size A n c re A' m c' rf:=by
  rw[hw1]
  exact⟨by simp,by simp[go_sem],by simp[go_sem],by simp[go_sem],by simp[go_sem],by simp[go_sem],by simp[go_sem],fun o=>by simp[go_sem],fun o=>by simp[go_sem],fun o=>by simp[go_sem]⟩
 have KP:Hid (∀W,Calm w1 W→Calls Tryz.prog 94 #[.agg #[.slice A n c,.bool re]] W fun e w'=>e=.returned (.int .i64 0)∧Calm W w'):=fun W hW=>rcheckA_c p n c re A W ((hp.calm hc1).calm hW) ep hn hre
 have KQ:Hid (∀W,Calm w1 W→Calls Tryz.prog 94 #[.agg #[.slice A' m c',.bool rf]] W fun e w'=>e=.returned (.int .i64 0)∧Calm W w'):=fun W hW=>rcheckA_c q m c' rf A' W ((hq.calm hc1).calm hW) eq hm hrf
 have hcm2:compat p q=true:=hcm
 have hlx:q.parts.length≤p.parts.length:=hl
 have HRest:=Lib.hid (rmeet_rest hlx hcm2)
 have key:(re=true∧rf=true∧m < n)∨(re=true∧rf=true∧m=n)∨(re=false∧rf=true∧m < n)∨(re=false∧rf=false∧m=n):=by
  have h1:=compat_iff.1 hcm2
  rw[hn,hm,hre,hrf] at h1
  rw[hn,hm] at hlx
  cases re <;> cases rf <;> simp at h1 ⊢ <;> omega
 have HLe:=Lib.hid hlx
 have HCm:=Lib.hid hcm2
 rw[hn,hm] at hl
 rw[hn,hm,hre,hrf]
 rw[hn] at hnl
 rw[hm] at hml
 have HW:=Lib.hid hw1
 have HC:=Lib.hid hc1
 have HB:=Lib.hid hbox
 have HN:=Lib.hid (And.intro hn (And.intro hm (And.intro hre hrf)))
 have HP:=Lib.hid hp
 have HQ:=Lib.hid hq
 have HEp:=Lib.hid ep
 have HEq:=Lib.hid eq
 have HKey:=Lib.hid key
 clear hw1 hc1 hbox hn hm hre hrf hp hq ep eq hcm hcm2 hlx key
 go_enter Tryz.func97,Tryz.ntmps97
 go_wp2_with fail
 rw[←HW.out]
 refine (KP.out w1 (Calm.refl _)).mono ?_
 rintro e w2 ⟨rfl,hc2⟩
 have b2:=HB.out.calm hc2
 have y0:=b2.y0
 have y1:=b2.y1
 clear b2
 go_wp2_with fail
 refine (KQ.out w2 hc2).mono ?_
 rintro e w3 ⟨rfl,hc3⟩
 have HB3:=Lib.hid (HB.out.calm (hc2.trans hc3))
 have HC3:=Lib.hid (hc2.trans hc3)
 have x0:=HB3.out.x0
 have x1:=HB3.out.x1
 have y0:=HB3.out.y0
 have y1:=HB3.out.y1
 clear hc2 hc3 KP KQ
 have HB5:=HB3
 have HC5:Hid (Calm w w3):=HC.out.trans HC3.out
 obtain⟨xb,hxb⟩:∃xb,xb=re:=⟨_,rfl⟩
 have HRx:Hid ((mPat p q).rest=xb):=by
  show (p.rest && q.rest)=xb
  rw[HRest.out,HN.out.2.2.1,hxb]
 have HLx:Hid (m≤n):=by
  have:=HLe.out
  rw[HN.out.1,HN.out.2.1] at this
  exact this
 obtain⟨w6,hw6⟩:∃w6,w6=w3.alloc (.cells #[.slice none 0 0,.bool xb] 51):=⟨_,rfl⟩
 have HG0:Hid (MTo w3 w6 w3.heap.size xb (.slice none 0 0) []):=by
  rw[hw6]
  exact⟨OwnS.nil ((Calm.refl _).alloc _),Nat.le_refl _,⟨_,heap_alloc_new w3 _⟩,by simp[go_sem],by simp[go_sem]⟩
 have hb2:¬n < m:=by have:=HLx.out;omega
 have hlt0:w.heap.size < w3.heap.size:=by have:=HB3.out.size;omega
 have hlt1:w.heap.size+1 < w3.heap.size:=by have:=HB3.out.size;omega
 clear hl
 rcases HKey.out with⟨r1,r2,h3⟩ | ⟨r1,r2,h3⟩ | ⟨r1,r2,h3⟩ | ⟨r1,r2,h3⟩
 all_goals
  first
   |(have hb1:((n:Int) == (m:Int))=false:=by (simp;omega)
     have hb3:m < n:=h3
     clear h3)
   |(have hb1:((n:Int) == (m:Int))=true:=by (simp;omega)
     have hb3:¬m < n:=by omega
     clear h3)
  subst r1 r2
  rw[hxb] at hw6
  have HXb:=Lib.hid hxb
  have HW6:=Lib.hid hw6
  clear hw6 hxb
  go_wp2_with fail
  rw[←HW6.out]
  clear x0 x1 y0 y1
  clear hb1 hb2 hb3
  go_loopw [62] (fun u wr=>∃(k:Nat) (Av:Option Addr) (nv cv:Nat),k≤n∧u=.int .i64 k∧Hid (MTo w3 wr w3.heap.size xb (.slice Av nv cv) (mTo p q k))∧Hid (∀j,j < k→canMeet (pAt p j) (pAt q j)=true)) (fun u _=>n - (intOf u).toNat)
  case atStart=>exact⟨0,_,_,_,Nat.zero_le _,rfl,HG0.out,fun j hj=>absurd hj (Nat.not_lt_zero _)⟩
  case round=>
   obtain⟨k,Av,nv,cv,hk,rfl,HGk,HCk⟩:=hrel
   have HCq:Hid (Calm w3 wr):=HGk.out.own.calm
   have HCr:Hid (Calm w wr):=HC5.out.trans HCq.out
   have HBx:=Lib.hid (HB5.out.calm HCq.out)
   by_cases hlt:k < n
   ·obtain⟨b',o',x,rfl,hb',hx,hxl,hcx⟩:=(HP.out.calm HCr.out).r.get (k:=k) (by rw[HN.out.1];exact hlt)
    have hkx:k < p.parts.length:=by rw[HN.out.1];exact hlt
    have hxe:x=pAt p k:=by
     rw[pAt_get hkx] at hx
     exact (Option.some.inj hx).symm
    have hxo:partOk x=true:=allOk_of HEp.out x (List.mem_of_getElem? hx)
    have HKx:=Lib.hid hkx
    have HXe:=Lib.hid (And.intro hxe hxo)
    have hlen:(mTo p q k).length≤1000000:=by rw[mTo_len];omega
    have y0:=HBx.out.y0
    have g0:=HGk.out.c0
    have glt:=HGk.out.lt
    clear hx hkx hxe hxo
    by_cases hky:k < m
    ·obtain⟨b,o,y,rfl,hb,hy,hyl,hcy⟩:=(HQ.out.calm HCr.out).r.get (k:=k) (by rw[HN.out.2.1];exact hky)
     have hye:y=pAt q k:=by
      rw[pAt_get (by rw[HN.out.2.1];exact hky)] at hy
      exact (Option.some.inj hy).symm
     have hyo:partOk y=true:=allOk_of HEq.out y (List.mem_of_getElem? hy)
     obtain⟨z1,hz1⟩:∃z,inside x y=z:=⟨_,rfl⟩
     obtain⟨z2,hz2⟩:∃z,inside y x=z:=⟨_,rfl⟩
     have hcall1:=rinside_v x y z1 wr hxl hyl HXe.out.2 hyo hz1
     have hcall2:=rinside_v y x z2 wr hyl hxl hyo HXe.out.2 hz2
     have HZ:=Lib.hid (And.intro hz1 hz2)
     have HYe:=Lib.hid hye
     clear hy hye hyo hz1 hz2
     cases z1 with
     |true=>
      have HS:Hid (mTo p q k++[x]=mTo p q (k+1)∧canMeet (pAt p k) (pAt q k)=true):=by
       rw[mTo_succ,←HXe.out.1,←HYe.out,mPart,canMeet,HZ.out.1]
       exact⟨rfl,rfl⟩
      clear hcall2
      go_wp2_with (first
       |(go_at_call 142;refine hcall1.mono ?_;rintro e w7 ⟨rfl,rfl⟩)
       |(at_builtin;refine wpList_append_str2 rfl (.tmp 82) (.tmp 84) rfl w3 (.slice Av nv cv) (mTo p q k) rfl (HGk.out.own.to ((Calm.refl wr).alloc (.cells #[.string (bs x)] 9))) wr.heap.size 0 1 rfl x (new_str _ rfl) hlen ?_;intro v8 w8 hown8 hgr8 hblk8;obtain⟨A8,n8,c8,hv8⟩:=hown8.shape;subst hv8;obtain⟨s2,sf⟩:=HGk.out.after ((Calm.refl wr).alloc (.cells #[.string (bs x)] 9)) hgr8;have HPut:=Lib.hid (HGk.out.put ((Calm.refl wr).alloc (.cells #[.string (bs x)] 9)) hown8 hgr8)))
      rw[HS.out.1] at HPut
      go_roundw
      case rel=>
       refine⟨k+1,_,_,_,by omega,by go_num,HPut.out,fun j hj=>?_⟩
       by_cases e:j=k
       ·rw[e]
        exact HS.out.2
       ·exact HCk.out j (by omega)
      case measure=>simp[intOf];omega
     |false=>
      cases z2 with
      |true=>
       have HS:Hid (mTo p q k++[y]=mTo p q (k+1)∧canMeet (pAt p k) (pAt q k)=true):=by
        rw[mTo_succ,←HXe.out.1,←HYe.out,mPart,canMeet,HZ.out.1,HZ.out.2]
        exact⟨rfl,rfl⟩
       go_wp2_with fail
       refine hcall1.mono ?_
       rintro e w7 ⟨rfl,rfl⟩
       go_wp2_with fail
       refine hcall2.mono ?_
       rintro e w7 ⟨rfl,rfl⟩
       clear hcall1 hcall2
       go_wp2_with fail
       go_region_law ((refine step_append_s rfl (.tmp 96) (.tmp 102) rfl w3 (.slice Av nv cv) (mTo p q k) (by simp[Act.eval,Act.put]) (HGk.out.own.to (by first | exact Calm.refl _ | exact (Calm.refl _).drewN _ | exact (Calm.refl _).alloc _ | exact ((Calm.refl _).drewN _).alloc _ | exact ((Calm.refl _).alloc _).drewN _)) _ 0 1 rfl y (by first | exact new_str _ rfl | simp[go_sem]) hlen ?_;intro v8 w8 hown8 hgr8;obtain⟨A8,n8,c8,hv8⟩:=hown8.shape;subst hv8;obtain⟨s2,sf⟩:=HGk.out.after (by first | exact Calm.refl _ | exact (Calm.refl _).drewN _ | exact (Calm.refl _).alloc _ | exact ((Calm.refl _).drewN _).alloc _ | exact ((Calm.refl _).alloc _).drewN _) hgr8;have HPut:=Lib.hid (HGk.out.put (by first | exact Calm.refl _ | exact (Calm.refl _).drewN _ | exact (Calm.refl _).alloc _ | exact ((Calm.refl _).drewN _).alloc _ | exact ((Calm.refl _).alloc _).drewN _) hown8 hgr8)))
       all_goals
        rw[HS.out.1] at HPut
        clear hown8 hgr8 s2 sf g0
        try simp only[List.getElem_toArray,List.getElem_cons_succ,List.getElem_cons_zero,Act.put,List.setIfInBounds_toArray,List.set_cons_succ,List.set_cons_zero]
        go_wp2
        go_roundw
        case rel=>
         refine⟨k+1,_,_,_,by omega,by go_num,HPut.out,fun j hj=>?_⟩
         by_cases e:j=k
         ·rw[e]
          exact HS.out.2
         ·exact HCk.out j (by omega)
        case measure=>simp[intOf];omega
      |false=>
       have hE:Hid (meetL p q=none):=by
        show meetL p q=none
        exact meetL_bad (j:=k) (by rw[←HXe.out.1,←HYe.out,canMeet,HZ.out.1,HZ.out.2];rfl)
       have z0:=HBx.out.z0
       have z1:=HBx.out.z1
       have f0:=HBx.out.fz 0
       have f1:=HBx.out.fz 1
       have hc8:Calm w ((wr.setCell ⟨w.heap.size+2,0,none⟩ (.slice none 0 0)).setCell ⟨w.heap.size+2,1,none⟩ (.bool false)):=Below.setCell (Below.setCell HCr.out (by show w.heap.size≤w.heap.size+2;omega) _) (by show w.heap.size≤w.heap.size+2;omega) _
       go_wp2_with fail
       refine hcall1.mono ?_
       rintro e w7 ⟨rfl,rfl⟩
       go_wp2_with fail
       refine hcall2.mono ?_
       rintro e w7 ⟨rfl,rfl⟩
       clear hcall1 hcall2
       go_wp2
       refine bodyPost_ret (v:=.tuple #[.agg #[.slice none 0 0,.bool false],.bool false]) ?_ rfl ⟨.inr ⟨hE.out,rfl⟩,hc8⟩
       rw[results_cell_slot rfl]
       go_simp
    ·have HS:Hid (mTo p q k++[x]=mTo p q (k+1)∧canMeet (pAt p k) (pAt q k)=true):=by
      have hf:=mPart_far (p:=p) (q:=q) (allOk_of HEp.out) HKx.out (by rw[HN.out.2.1];omega)
      rw[mTo_succ,hf.1,←HXe.out.1]
      exact⟨rfl,by rw[HXe.out.1];exact hf.2⟩
     go_wp2_with (at_builtin;refine wpList_append_str2 rfl (.tmp 82) (.tmp 84) rfl w3 (.slice Av nv cv) (mTo p q k) rfl (HGk.out.own.to ((Calm.refl wr).alloc (.cells #[.string (bs x)] 9))) wr.heap.size 0 1 rfl x (new_str _ rfl) hlen ?_;intro v8 w8 hown8 hgr8 hblk8;obtain⟨A8,n8,c8,hv8⟩:=hown8.shape;subst hv8;obtain⟨s2,sf⟩:=HGk.out.after ((Calm.refl wr).alloc (.cells #[.string (bs x)] 9)) hgr8;have HPut:=Lib.hid (HGk.out.put ((Calm.refl wr).alloc (.cells #[.string (bs x)] 9)) hown8 hgr8))
     rw[HS.out.1] at HPut
     go_roundw
     case rel=>
      refine⟨k+1,_,_,_,by omega,by go_num,HPut.out,fun j hj=>?_⟩
      by_cases e:j=k
      ·rw[e]
       exact HS.out.2
      ·exact HCk.out j (by omega)
     case measure=>simp[intOf];omega
   ·have hkn:k=n:=by omega
    have hEnd:mTo p q k=(mPat p q).parts:=by
     rw[hkn]
     exact mTo_end HN.out.1 (by have:=HLx.out;rw[HN.out.2.1];exact this)
    have hmeet:Hid (meetL p q=some (mPat p q)):=by
     show meetL p q=_
     exact meetL_yes (allOk_of HEp.out) HLe.out HCm.out (fun j hj=>HCk.out j (by have h1:=HLx.out;rw[HN.out.2.1] at hj;omega))
    have hown:=HGk.out.own.own
    rw[hEnd] at hown
    obtain⟨A9,c9,hv9,hn9⟩:=own_newS hown (by rw[←hEnd,mTo_len];omega) (fun l hl=>by
     rw[←hEnd] at hl
     obtain⟨j,_,rfl⟩:=List.mem_map.1 hl
     rcases mPart_or (pAt p j) (pAt q j) with e | e <;> rw[e]
     ·exact Nat.le_trans (pAt_lenM HP.out.r.each j) (by decide)
     ·exact Nat.le_trans (pAt_lenM HQ.out.r.each j) (by decide))
    obtain⟨rfl,hnv,rfl⟩:Av=A9∧nv=(mPat p q).parts.length∧cv=c9:=by simpa using hv9
    have hML:Hid ((mPat p q).parts.length=nv):=hnv.symm
    have g0:=HGk.out.c0
    have g1:=HGk.out.c1
    have z0:=HBx.out.z0
    have z1:=HBx.out.z1
    have f0:=HBx.out.fz 0
    have f1:=HBx.out.fz 1
    have hge:=HB5.out.size
    have hMS:=fun (u0 u1:Value)=>Lib.hid (((hn9.set (p:=⟨w.heap.size+2,0,none⟩) u0 (by show w.heap.size+2 < _;omega)).set (p:=⟨w.heap.size+2,1,none⟩) u1 (by show w.heap.size+2 < _;omega)).mono (show w.heap.size≤w3.heap.size by omega))
    have hc8:=fun (u0 u1:Value)=>Lib.hid (show Calm w ((wr.setCell ⟨w.heap.size+2,0,none⟩ u0).setCell ⟨w.heap.size+2,1,none⟩ u1) from Below.setCell (Below.setCell HCr.out (by show w.heap.size≤w.heap.size+2;omega) _) (by show w.heap.size≤w.heap.size+2;omega) _)
    clear hown hv9 hnv hn9 hEnd hge
    subst hkn
    go_wp2
    refine bodyPost_ret (v:=.tuple #[.agg #[.slice Av nv cv,.bool xb],.bool true]) ?_ rfl ⟨.inl ⟨mPat p q,Av,cv,hmeet.out,by rw[hML.out,HRx.out],(hMS _ _).out⟩,(hc8 _ _).out⟩
    rw[results_cell_slot rfl]
    go_simp
set_option maxHeartbeats 16000000 in
theorem rmeet_short (p q:Pat) (A A':Option Addr) (c c':Nat) (w:World) (hp:PatA w A c p) (hq:PatA w A' c' q) (ep:patErr p=0) (eq:patErr q=0) (hl:p.parts.length < q.parts.length) (hcm:compat p q=true) :
  Calls Tryz.prog 97 #[.agg #[.slice A p.parts.length c,.bool p.rest],.agg #[.slice A' q.parts.length c',.bool q.rest]] w fun e w'=>MeetEnd p q w.heap.size e w'∧Calm w w':=by
 obtain⟨n,hn⟩:∃n,p.parts.length=n:=⟨_,rfl⟩
 obtain⟨m,hm⟩:∃m,q.parts.length=m:=⟨_,rfl⟩
 obtain⟨re,hre⟩:∃re,p.rest=re:=⟨_,rfl⟩
 obtain⟨rf,hrf⟩:∃rf,q.rest=rf:=⟨_,rfl⟩
 have hnl:=hp.r.len
 have hml:=hq.r.len
 obtain⟨w1,hw1⟩:∃w1,w1=((w.alloc (.cells #[.slice A n c,.bool re] 51)).alloc (.cells #[.slice A' m c',.bool rf] 51)).alloc (.cells #[.slice none 0 0,.bool false] 51):=⟨_,rfl⟩
 have hc1:Calm w w1:=by rw[hw1];exact (((Calm.refl w).alloc _).alloc _).alloc _
 have hbox:Box3 w1 w.heap.size A n c re A' m c' rf:=by
  rw[hw1]
  exact⟨by simp,by simp[go_sem],by simp[go_sem],by simp[go_sem],by simp[go_sem],by simp[go_sem],by simp[go_sem],fun o=>by simp[go_sem],fun o=>by simp[go_sem],fun o=>by simp[go_sem]⟩
 have KP:Hid (∀W,Calm w1 W→Calls Tryz.prog 94 #[.agg #[.slice A n c,.bool re]] W fun e w'=>e=.returned (.int .i64 0)∧Calm W w'):=fun W hW=>rcheckA_c p n c re A W ((hp.calm hc1).calm hW) ep hn hre
 have KQ:Hid (∀W,Calm w1 W→Calls Tryz.prog 94 #[.agg #[.slice A' m c',.bool rf]] W fun e w'=>e=.returned (.int .i64 0)∧Calm W w'):=fun W hW=>rcheckA_c q m c' rf A' W ((hq.calm hc1).calm hW) eq hm hrf
 have HMc:Hid (meetL p q=meetL q p):=meetL_comm (allOk_of ep) (allOk_of eq)
 have hcm2:compat q p=true:=by rw[compat_comm];exact hcm
 have hlx:p.parts.length≤q.parts.length:=Nat.le_of_lt hl
 have HRest:=Lib.hid (rmeet_rest hlx hcm2)
 have key:(rf=true∧re=true∧n < m)∨(rf=false∧re=true∧n < m):=by
  have h1:=compat_iff.1 hcm2
  rw[hn,hm,hre,hrf] at h1
  rw[hn,hm] at hlx hl
  cases re <;> cases rf <;> simp at h1 ⊢ <;> omega
 have HLe:=Lib.hid hlx
 have HCm:=Lib.hid hcm2
 rw[hn,hm] at hl
 rw[hn,hm,hre,hrf]
 rw[hn] at hnl
 rw[hm] at hml
 have HW:=Lib.hid hw1
 have HC:=Lib.hid hc1
 have HB:=Lib.hid hbox
 have HN:=Lib.hid (And.intro hn (And.intro hm (And.intro hre hrf)))
 have HP:=Lib.hid hp
 have HQ:=Lib.hid hq
 have HEp:=Lib.hid ep
 have HEq:=Lib.hid eq
 have HKey:=Lib.hid key
 clear hw1 hc1 hbox hn hm hre hrf hp hq ep eq hcm hcm2 hlx key
 go_enter Tryz.func97,Tryz.ntmps97
 go_wp2_with fail
 rw[←HW.out]
 refine (KP.out w1 (Calm.refl _)).mono ?_
 rintro e w2 ⟨rfl,hc2⟩
 have b2:=HB.out.calm hc2
 have y0:=b2.y0
 have y1:=b2.y1
 clear b2
 go_wp2_with fail
 refine (KQ.out w2 hc2).mono ?_
 rintro e w3 ⟨rfl,hc3⟩
 have HB3:=Lib.hid (HB.out.calm (hc2.trans hc3))
 have HC3:=Lib.hid (hc2.trans hc3)
 have x0:=HB3.out.x0
 have x1:=HB3.out.x1
 have y0:=HB3.out.y0
 have y1:=HB3.out.y1
 clear hc2 hc3 KP KQ
 have fx0:=HB3.out.fx 0
 have fx1:=HB3.out.fx 1
 have fy0:=HB3.out.fy 0
 have fy1:=HB3.out.fy 1
 obtain⟨w5,hw5⟩:∃w5,w5=(((w3.setCell ⟨w.heap.size,0,none⟩ (.slice A' m c')).setCell ⟨w.heap.size,1,none⟩ (.bool rf)).setCell ⟨w.heap.size+1,0,none⟩ (.slice A n c)).setCell ⟨w.heap.size+1,1,none⟩ (.bool re):=⟨_,rfl⟩
 have HB5:Hid (Box3 w5 w.heap.size A' m c' rf A n c re):=by rw[hw5];exact HB3.out.swap
 have HC5:Hid (Calm w w5):=by
  rw[hw5]
  exact Below.setCell (Below.setCell (Below.setCell (Below.setCell (HC.out.trans HC3.out) (Nat.le_refl _) _) (Nat.le_refl _) _) (by show w.heap.size≤w.heap.size+1;omega) _) (by show w.heap.size≤w.heap.size+1;omega) _
 have HW5:=Lib.hid hw5
 have hz5:w5.heap.size=w3.heap.size:=by rw[hw5];simp
 clear hw5
 obtain⟨xb,hxb⟩:∃xb,xb=rf:=⟨_,rfl⟩
 have HRx:Hid ((mPat q p).rest=xb):=by
  show (q.rest && p.rest)=xb
  rw[HRest.out,HN.out.2.2.2,hxb]
 have HLx:Hid (n≤m):=by
  have:=HLe.out
  rw[HN.out.2.1,HN.out.1] at this
  exact this
 obtain⟨w6,hw6⟩:∃w6,w6=w5.alloc (.cells #[.slice none 0 0,.bool xb] 51):=⟨_,rfl⟩
 have HG0:Hid (MTo w5 w6 w3.heap.size xb (.slice none 0 0) []):=by
  rw[hw6,←hz5]
  exact⟨OwnS.nil ((Calm.refl _).alloc _),Nat.le_refl _,⟨_,heap_alloc_new w5 _⟩,by simp[go_sem],by simp[go_sem]⟩
 have hb2:n < m:=by have:=HLx.out;omega
 have hlt0:w.heap.size < w3.heap.size:=by have:=HB3.out.size;omega
 have hlt1:w.heap.size+1 < w3.heap.size:=by have:=HB3.out.size;omega
 clear hl
 rcases HKey.out with⟨r1,r2,h3⟩ | ⟨r1,r2,h3⟩
 all_goals
  first
   |(have hb1:((m:Int) == (n:Int))=false:=by (simp;omega)
     have hb3:n < m:=h3
     clear h3)
   |(have hb1:((m:Int) == (n:Int))=true:=by (simp;omega)
     have hb3:¬n < m:=by omega
     clear h3)
  subst r1 r2
  rw[hxb] at hw6
  have HXb:=Lib.hid hxb
  have HW6:=Lib.hid hw6
  clear hw6 hxb
  go_wp2_with fail
  rw[←HW5.out,←HW6.out]
  clear x0 x1 y0 y1 fx0 fx1 fy0 fy1
  clear hb1 hb2 hb3
  go_loopw [62] (fun u wr=>∃(k:Nat) (Av:Option Addr) (nv cv:Nat),k≤m∧u=.int .i64 k∧Hid (MTo w5 wr w3.heap.size xb (.slice Av nv cv) (mTo q p k))∧Hid (∀j,j < k→canMeet (pAt q j) (pAt p j)=true)) (fun u _=>m - (intOf u).toNat)
  case atStart=>exact⟨0,_,_,_,Nat.zero_le _,rfl,HG0.out,fun j hj=>absurd hj (Nat.not_lt_zero _)⟩
  case round=>
   obtain⟨k,Av,nv,cv,hk,rfl,HGk,HCk⟩:=hrel
   have HCq:Hid (Calm w5 wr):=HGk.out.own.calm
   have HCr:Hid (Calm w wr):=HC5.out.trans HCq.out
   have HBx:=Lib.hid (HB5.out.calm HCq.out)
   by_cases hlt:k < m
   ·obtain⟨b',o',x,rfl,hb',hx,hxl,hcx⟩:=(HQ.out.calm HCr.out).r.get (k:=k) (by rw[HN.out.2.1];exact hlt)
    have hkx:k < q.parts.length:=by rw[HN.out.2.1];exact hlt
    have hxe:x=pAt q k:=by
     rw[pAt_get hkx] at hx
     exact (Option.some.inj hx).symm
    have hxo:partOk x=true:=allOk_of HEq.out x (List.mem_of_getElem? hx)
    have HKx:=Lib.hid hkx
    have HXe:=Lib.hid (And.intro hxe hxo)
    have hlen:(mTo q p k).length≤1000000:=by rw[mTo_len];omega
    have y0:=HBx.out.y0
    have g0:=HGk.out.c0
    have glt:=HGk.out.lt
    clear hx hkx hxe hxo
    by_cases hky:k < n
    ·obtain⟨b,o,y,rfl,hb,hy,hyl,hcy⟩:=(HP.out.calm HCr.out).r.get (k:=k) (by rw[HN.out.1];exact hky)
     have hye:y=pAt p k:=by
      rw[pAt_get (by rw[HN.out.1];exact hky)] at hy
      exact (Option.some.inj hy).symm
     have hyo:partOk y=true:=allOk_of HEp.out y (List.mem_of_getElem? hy)
     obtain⟨z1,hz1⟩:∃z,inside x y=z:=⟨_,rfl⟩
     obtain⟨z2,hz2⟩:∃z,inside y x=z:=⟨_,rfl⟩
     have hcall1:=rinside_v x y z1 wr hxl hyl HXe.out.2 hyo hz1
     have hcall2:=rinside_v y x z2 wr hyl hxl hyo HXe.out.2 hz2
     have HZ:=Lib.hid (And.intro hz1 hz2)
     have HYe:=Lib.hid hye
     clear hy hye hyo hz1 hz2
     cases z1 with
     |true=>
      have HS:Hid (mTo q p k++[x]=mTo q p (k+1)∧canMeet (pAt q k) (pAt p k)=true):=by
       rw[mTo_succ,←HXe.out.1,←HYe.out,mPart,canMeet,HZ.out.1]
       exact⟨rfl,rfl⟩
      clear hcall2
      go_wp2_with (first
       |(go_at_call 142;refine hcall1.mono ?_;rintro e w7 ⟨rfl,rfl⟩)
       |(at_builtin;refine wpList_append_str2 rfl (.tmp 82) (.tmp 84) rfl w5 (.slice Av nv cv) (mTo q p k) rfl (HGk.out.own.to ((Calm.refl wr).alloc (.cells #[.string (bs x)] 9))) wr.heap.size 0 1 rfl x (new_str _ rfl) hlen ?_;intro v8 w8 hown8 hgr8 hblk8;obtain⟨A8,n8,c8,hv8⟩:=hown8.shape;subst hv8;obtain⟨s2,sf⟩:=HGk.out.after ((Calm.refl wr).alloc (.cells #[.string (bs x)] 9)) hgr8;have HPut:=Lib.hid (HGk.out.put ((Calm.refl wr).alloc (.cells #[.string (bs x)] 9)) hown8 hgr8)))
      rw[HS.out.1] at HPut
      go_roundw
      case rel=>
       refine⟨k+1,_,_,_,by omega,by go_num,HPut.out,fun j hj=>?_⟩
       by_cases e:j=k
       ·rw[e]
        exact HS.out.2
       ·exact HCk.out j (by omega)
      case measure=>simp[intOf];omega
     |false=>
      cases z2 with
      |true=>
       have HS:Hid (mTo q p k++[y]=mTo q p (k+1)∧canMeet (pAt q k) (pAt p k)=true):=by
        rw[mTo_succ,←HXe.out.1,←HYe.out,mPart,canMeet,HZ.out.1,HZ.out.2]
        exact⟨rfl,rfl⟩
       go_wp2_with fail
       refine hcall1.mono ?_
       rintro e w7 ⟨rfl,rfl⟩
       go_wp2_with fail
       refine hcall2.mono ?_
       rintro e w7 ⟨rfl,rfl⟩
       clear hcall1 hcall2
       go_wp2_with fail
       go_region_law ((refine step_append_s rfl (.tmp 96) (.tmp 102) rfl w5 (.slice Av nv cv) (mTo q p k) (by simp[Act.eval,Act.put]) (HGk.out.own.to (by first | exact Calm.refl _ | exact (Calm.refl _).drewN _ | exact (Calm.refl _).alloc _ | exact ((Calm.refl _).drewN _).alloc _ | exact ((Calm.refl _).alloc _).drewN _)) _ 0 1 rfl y (by first | exact new_str _ rfl | simp[go_sem]) hlen ?_;intro v8 w8 hown8 hgr8;obtain⟨A8,n8,c8,hv8⟩:=hown8.shape;subst hv8;obtain⟨s2,sf⟩:=HGk.out.after (by first | exact Calm.refl _ | exact (Calm.refl _).drewN _ | exact (Calm.refl _).alloc _ | exact ((Calm.refl _).drewN _).alloc _ | exact ((Calm.refl _).alloc _).drewN _) hgr8;have HPut:=Lib.hid (HGk.out.put (by first | exact Calm.refl _ | exact (Calm.refl _).drewN _ | exact (Calm.refl _).alloc _ | exact ((Calm.refl _).drewN _).alloc _ | exact ((Calm.refl _).alloc _).drewN _) hown8 hgr8)))
       all_goals
        rw[HS.out.1] at HPut
        clear hown8 hgr8 s2 sf g0
        try simp only[List.getElem_toArray,List.getElem_cons_succ,List.getElem_cons_zero,Act.put,List.setIfInBounds_toArray,List.set_cons_succ,List.set_cons_zero]
        go_wp2
        go_roundw
        case rel=>
         refine⟨k+1,_,_,_,by omega,by go_num,HPut.out,fun j hj=>?_⟩
         by_cases e:j=k
         ·rw[e]
          exact HS.out.2
         ·exact HCk.out j (by omega)
        case measure=>simp[intOf];omega
      |false=>
       have hE:Hid (meetL p q=none):=by
        show meetL p q=none
        rw[HMc.out]
        exact meetL_bad (j:=k) (by rw[←HXe.out.1,←HYe.out,canMeet,HZ.out.1,HZ.out.2];rfl)
       have z0:=HBx.out.z0
       have z1:=HBx.out.z1
       have f0:=HBx.out.fz 0
       have f1:=HBx.out.fz 1
       have hc8:Calm w ((wr.setCell ⟨w.heap.size+2,0,none⟩ (.slice none 0 0)).setCell ⟨w.heap.size+2,1,none⟩ (.bool false)):=Below.setCell (Below.setCell HCr.out (by show w.heap.size≤w.heap.size+2;omega) _) (by show w.heap.size≤w.heap.size+2;omega) _
       go_wp2_with fail
       refine hcall1.mono ?_
       rintro e w7 ⟨rfl,rfl⟩
       go_wp2_with fail
       refine hcall2.mono ?_
       rintro e w7 ⟨rfl,rfl⟩
       clear hcall1 hcall2
       go_wp2
       refine bodyPost_ret (v:=.tuple #[.agg #[.slice none 0 0,.bool false],.bool false]) ?_ rfl ⟨.inr ⟨hE.out,rfl⟩,hc8⟩
       rw[results_cell_slot rfl]
       go_simp
    ·have HS:Hid (mTo q p k++[x]=mTo q p (k+1)∧canMeet (pAt q k) (pAt p k)=true):=by
      have hf:=mPart_far (p:=q) (q:=p) (allOk_of HEq.out) HKx.out (by rw[HN.out.1];omega)
      rw[mTo_succ,hf.1,←HXe.out.1]
      exact⟨rfl,by rw[HXe.out.1];exact hf.2⟩
     go_wp2_with (at_builtin;refine wpList_append_str2 rfl (.tmp 82) (.tmp 84) rfl w5 (.slice Av nv cv) (mTo q p k) rfl (HGk.out.own.to ((Calm.refl wr).alloc (.cells #[.string (bs x)] 9))) wr.heap.size 0 1 rfl x (new_str _ rfl) hlen ?_;intro v8 w8 hown8 hgr8 hblk8;obtain⟨A8,n8,c8,hv8⟩:=hown8.shape;subst hv8;obtain⟨s2,sf⟩:=HGk.out.after ((Calm.refl wr).alloc (.cells #[.string (bs x)] 9)) hgr8;have HPut:=Lib.hid (HGk.out.put ((Calm.refl wr).alloc (.cells #[.string (bs x)] 9)) hown8 hgr8))
     rw[HS.out.1] at HPut
     go_roundw
     case rel=>
      refine⟨k+1,_,_,_,by omega,by go_num,HPut.out,fun j hj=>?_⟩
      by_cases e:j=k
      ·rw[e]
       exact HS.out.2
      ·exact HCk.out j (by omega)
     case measure=>simp[intOf];omega
   ·have hkn:k=m:=by omega
    have hEnd:mTo q p k=(mPat q p).parts:=by
     rw[hkn]
     exact mTo_end HN.out.2.1 (by have:=HLx.out;rw[HN.out.1];exact this)
    have hmeet:Hid (meetL p q=some (mPat q p)):=by
     show meetL p q=_
     rw[HMc.out]
     exact meetL_yes (allOk_of HEq.out) HLe.out HCm.out (fun j hj=>HCk.out j (by have h1:=HLx.out;rw[HN.out.1] at hj;omega))
    have hown:=HGk.out.own.own
    rw[hEnd] at hown
    obtain⟨A9,c9,hv9,hn9⟩:=own_newS hown (by rw[←hEnd,mTo_len];omega) (fun l hl=>by
     rw[←hEnd] at hl
     obtain⟨j,_,rfl⟩:=List.mem_map.1 hl
     rcases mPart_or (pAt q j) (pAt p j) with e | e <;> rw[e]
     ·exact Nat.le_trans (pAt_lenM HQ.out.r.each j) (by decide)
     ·exact Nat.le_trans (pAt_lenM HP.out.r.each j) (by decide))
    obtain⟨rfl,hnv,rfl⟩:Av=A9∧nv=(mPat q p).parts.length∧cv=c9:=by simpa using hv9
    have hML:Hid ((mPat q p).parts.length=nv):=hnv.symm
    have g0:=HGk.out.c0
    have g1:=HGk.out.c1
    have z0:=HBx.out.z0
    have z1:=HBx.out.z1
    have f0:=HBx.out.fz 0
    have f1:=HBx.out.fz 1
    have hge:=HB5.out.size
    have hMS:=fun (u0 u1:Value)=>Lib.hid (((hn9.set (p:=⟨w.heap.size+2,0,none⟩) u0 (by show w.heap.size+2 < _;omega)).set (p:=⟨w.heap.size+2,1,none⟩) u1 (by show w.heap.size+2 < _;omega)).mono (show w.heap.size≤w5.heap.size by omega))
    have hc8:=fun (u0 u1:Value)=>Lib.hid (show Calm w ((wr.setCell ⟨w.heap.size+2,0,none⟩ u0).setCell ⟨w.heap.size+2,1,none⟩ u1) from Below.setCell (Below.setCell HCr.out (by show w.heap.size≤w.heap.size+2;omega) _) (by show w.heap.size≤w.heap.size+2;omega) _)
    clear hown hv9 hnv hn9 hEnd hge
    subst hkn
    go_wp2
    refine bodyPost_ret (v:=.tuple #[.agg #[.slice Av nv cv,.bool xb],.bool true]) ?_ rfl ⟨.inl ⟨mPat q p,Av,cv,hmeet.out,by rw[hML.out,HRx.out],(hMS _ _).out⟩,(hc8 _ _).out⟩
    rw[results_cell_slot rfl]
    go_simp
set_option maxHeartbeats 4000000 in
theorem rmeet_far (p q:Pat) (A A':Option Addr) (c c':Nat) (w:World) (hp:PatA w A c p) (hq:PatA w A' c' q) (ep:patErr p=0) (eq:patErr q=0) (hcm:compat p q=false) :
  Calls Tryz.prog 97 #[.agg #[.slice A p.parts.length c,.bool p.rest],.agg #[.slice A' q.parts.length c',.bool q.rest]] w fun e w'=>MeetEnd p q w.heap.size e w'∧Calm w w':=by
 obtain⟨n,hn⟩:∃n,p.parts.length=n:=⟨_,rfl⟩
 obtain⟨m,hm⟩:∃m,q.parts.length=m:=⟨_,rfl⟩
 obtain⟨re,hre⟩:∃re,p.rest=re:=⟨_,rfl⟩
 obtain⟨rf,hrf⟩:∃rf,q.rest=rf:=⟨_,rfl⟩
 have hnl:=hp.r.len
 have hml:=hq.r.len
 obtain⟨w1,hw1⟩:∃w1,w1=((w.alloc (.cells #[.slice A n c,.bool re] 51)).alloc (.cells #[.slice A' m c',.bool rf] 51)).alloc (.cells #[.slice none 0 0,.bool false] 51):=⟨_,rfl⟩
 have hc1:Calm w w1:=by rw[hw1];exact (((Calm.refl w).alloc _).alloc _).alloc _
 have hbox:Box3 w1 w.heap.size A n c re A' m c' rf:=by
  rw[hw1]
  exact⟨by simp,by simp[go_sem],by simp[go_sem],by simp[go_sem],by simp[go_sem],by simp[go_sem],by simp[go_sem],fun o=>by simp[go_sem],fun o=>by simp[go_sem],fun o=>by simp[go_sem]⟩
 have KP:Hid (∀W,Calm w1 W→Calls Tryz.prog 94 #[.agg #[.slice A n c,.bool re]] W fun e w'=>e=.returned (.int .i64 0)∧Calm W w'):=fun W hW=>rcheckA_c p n c re A W ((hp.calm hc1).calm hW) ep hn hre
 have KQ:Hid (∀W,Calm w1 W→Calls Tryz.prog 94 #[.agg #[.slice A' m c',.bool rf]] W fun e w'=>e=.returned (.int .i64 0)∧Calm W w'):=fun W hW=>rcheckA_c q m c' rf A' W ((hq.calm hc1).calm hW) eq hm hrf
 rw[hn] at hnl
 rw[hm] at hml
 have hE:=Lib.hid (meetL_far hcm)
 have hcmp:(if re then (if rf then true else decide (n < m)) else (if rf then decide (m < n) else n == m))=false:=by rw[←hn,←hm,←hre,←hrf];exact hcm
 have hkey:(re=true∧rf=false∧m < n)∨(re=true∧rf=false∧m=n)∨(re=false∧rf=true∧n < m)∨(re=false∧rf=true∧m=n)∨(re=false∧rf=false∧n < m)∨(re=false∧rf=false∧m < n):=by
  cases re <;> cases rf <;> simp at hcmp ⊢ <;> omega
 rw[hn,hm,hre,hrf]
 have HW:=Lib.hid hw1
 have HC:=Lib.hid hc1
 have HB:=Lib.hid hbox
 have HKey:=Lib.hid hkey
 clear hw1 hc1 hbox hn hm hre hrf hp hq ep eq hcm hcmp hkey
 go_enter Tryz.func97,Tryz.ntmps97
 go_wp2_with fail
 rw[←HW.out]
 refine (KP.out w1 (Calm.refl _)).mono ?_
 rintro e w2 ⟨rfl,hc2⟩
 have b2:=HB.out.calm hc2
 have y0:=b2.y0
 have y1:=b2.y1
 clear b2
 go_wp2_with fail
 refine (KQ.out w2 hc2).mono ?_
 rintro e w3 ⟨rfl,hc3⟩
 have HB3:=Lib.hid (HB.out.calm (hc2.trans hc3))
 have HC3:=Lib.hid (HC.out.trans (hc2.trans hc3))
 have x0:=HB3.out.x0
 have x1:=HB3.out.x1
 have y0:=HB3.out.y0
 have y1:=HB3.out.y1
 have z0:=HB3.out.z0
 have z1:=HB3.out.z1
 have f0:=HB3.out.fz 0
 have f1:=HB3.out.fz 1
 have fx0:=HB3.out.fx 0
 have fx1:=HB3.out.fx 1
 have fy0:=HB3.out.fy 0
 have fy1:=HB3.out.fy 1
 have hlt0:w.heap.size < w3.heap.size:=by have:=HB3.out.size;omega
 have hlt1:w.heap.size+1 < w3.heap.size:=by have:=HB3.out.size;omega
 clear hc2 hc3 KP KQ
 rcases HKey.out with⟨r1,r2,h3⟩ | ⟨r1,r2,h3⟩ | ⟨r1,r2,h3⟩ | ⟨r1,r2,h3⟩ | ⟨r1,r2,h3⟩ | ⟨r1,r2,h3⟩
 all_goals
  subst r1 r2
  first
   |subst h3
   |(have hb1:((n:Int) == (m:Int))=false:=by (simp;omega)
     have hb2:((m:Int) == (n:Int))=false:=by (simp;omega))
  first
   |have hb3:¬n < m:=by omega
   |have hb3:¬m < n:=by omega
   |skip
  clear HKey
  go_wp2
  refine bodyPost_ret (v:=.tuple #[.agg #[.slice none 0 0,.bool false],.bool false]) ?_ rfl ⟨.inr ⟨hE.out,rfl⟩,?_⟩
  ·rw[results_cell_slot rfl]
   go_simp
  ·repeat (refine Below.setCell ?_ (by first | exact Nat.le_refl _ | (show w.heap.size≤w.heap.size+1;omega) | (show w.heap.size≤w.heap.size+2;omega)) _)
   exact HC3.out
theorem rmeet_c (p q:Pat) (A A':Option Addr) (c c':Nat) (w:World) (hp:PatA w A c p) (hq:PatA w A' c' q) (ep:patErr p=0) (eq:patErr q=0) :
  Calls Tryz.prog 97 #[.agg #[.slice A p.parts.length c,.bool p.rest],.agg #[.slice A' q.parts.length c',.bool q.rest]] w fun e w'=>MeetEnd p q w.heap.size e w'∧Calm w w':=by
 rcases hcm:compat p q with _ | _
 ·exact rmeet_far p q A A' c c' w hp hq ep eq hcm
 rcases Nat.lt_or_ge p.parts.length q.parts.length with h | h
 ·exact rmeet_short p q A A' c c' w hp hq ep eq h hcm
 ·exact rmeet_long p q A A' c c' w hp hq ep eq h hcm
end Go.Proofs.YtdcdabbepnahnaaGreatDoor
