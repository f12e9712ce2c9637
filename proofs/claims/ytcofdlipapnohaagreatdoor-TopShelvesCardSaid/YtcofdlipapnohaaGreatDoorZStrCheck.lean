/- Walks: the meet of two patterns with parts of up to 1048576 letters (written by program: gen_meetu.py). -/
import Derived.Test.YtcofdlipapnohaaGreatDoorZMeetW
import Derived.Test.YtcofdlipapnohaaGreatDoorZItself
import Derived.Test.YtcofdlipapnohaaGreatDoorZRowX
set_option linter.unusedVariables false
set_option linter.unusedSimpArgs false
namespace Go.Proofs.YtcofdlipapnohaaGreatDoor
open Go Go.RowKit Sy
structure PatU (w:World) (A:Option Addr) (c:Nat) (p:Pat):Prop where
 r:StrsU w A p.parts
 room:p.parts.length≤c
 cap:c≤9223372036854775807
theorem PatU.calm {w w':World} {A:Option Addr} {c:Nat} {p:Pat} (h:PatU w A c p) (hc:Calm w w'):PatU w' A c p:=⟨h.r.calm hc,h.room,h.cap⟩
theorem checkU_c (p:Pat) (n c:Nat) (re:Bool) (A:Option Addr) (w:World) (hr:PatU w A c p) (hp:patErr p=0) (hn:p.parts.length=n) (hre:p.rest=re):Calls Tryz.prog 197 #[.agg #[.slice A n c,.bool re]] w fun e w'=>e=.returned (.int .i64 0)∧Calm w w':=by
 have:=pcheckG_c p A c w hr.r.toG hr.room hr.cap
 rw[hp,hn,hre] at this
 exact this
set_option maxHeartbeats 400000 in
theorem compatU_c (n m:Nat) (r1 r2 v:Bool) (w:World) (hn:n≤1048576) (hm:m≤1048576) (hv:(if r1 then (if r2 then true else decide (n < m)) else (if r2 then decide (m < n) else n == m))=v) :
  Calls Tryz.prog 199 #[.int .i64 n,.bool r1,.int .i64 m,.bool r2] w fun e w'=>e=.returned (.bool v)∧w=w':=by
 subst hv
 cases r1 <;> cases r2
 ·by_cases h:n=m
  ·subst h
   go_enter Tryz.func199,Tryz.ntmps199
   go_wp2
   go_ret
   exact⟨ret_bool (by simp),rfl⟩
  ·have hb:((n:Int) == (m:Int))=false:=by simp;omega
   have H:=Lib.hid h
   clear h
   go_enter Tryz.func199,Tryz.ntmps199
   go_wp2
   go_ret
   exact⟨ret_bool (by simp[H.out]),rfl⟩
 ·by_cases h:m < n
  all_goals
   go_enter Tryz.func199,Tryz.ntmps199
   go_wp2
   go_ret
   exact⟨ret_bool (by simp[h];try omega),rfl⟩
 ·by_cases h:n < m
  all_goals
   go_enter Tryz.func199,Tryz.ntmps199
   go_wp2
   go_ret
   exact⟨ret_bool (by simp[h];try omega),rfl⟩
 ·go_enter Tryz.func199,Tryz.ntmps199
  go_wp2
  go_ret
  exact⟨rfl,rfl⟩
theorem withinU_v (a b:Str) (v:Bool) (w:World) (ha:a.length≤1048576) (hb:b.length≤1048576) (hv:inside a b=v):Calls Tryz.prog 233 #[.string (bs a),.string (bs b)] w fun e w'=>e=.returned (.bool v)∧Calm w w':=hv ▸ pwith_u a b w (by omega) (by omega)
set_option maxHeartbeats 400000 in
theorem mtpartU_c (x y:Str) (v:Bool) (w:World) (hx:x.length≤1048576) (hy:y.length≤1048576) (hv:canMeet x y=v) :
  Calls Tryz.prog 200 #[.string (bs x),.string (bs y)] w fun e w'=>e=.returned (.tuple #[.string (bs (mPartE x y)),.bool v])∧Calm w w':=by
 subst hv
 rcases h1:inside x y with _ | _
 ·have k1:=fun W=>withinU_v x y false W hx hy h1
  rcases h2:inside y x with _ | _
  ·have k2:=fun W=>withinU_v y x false W hy hx h2
   have hE:Hid (Value.tuple #[.string (bs (mPartE x y)),.bool (canMeet x y)]=.tuple #[.string ⟨#[]⟩,.bool false]):=by
    show _=_
    rw[mPartE,canMeet,h1,h2]
    rfl
   clear h1 h2
   go_enter Tryz.func200,Tryz.ntmps200
   go_wp2_with fail
   refine (k1 _).mono ?_
   rintro e w2 ⟨rfl,hc2⟩
   go_wp2_with fail
   refine (k2 _).mono ?_
   rintro e w3 ⟨rfl,hc3⟩
   go_wp2
   go_ret2
   exact⟨by rw[hE.out];rfl,hc2.trans hc3⟩
  ·have k2:=fun W=>withinU_v y x true W hy hx h2
   have hE:Hid (Value.tuple #[.string (bs (mPartE x y)),.bool (canMeet x y)]=.tuple #[.string (bs y),.bool true]):=by
    show _=_
    rw[mPartE,canMeet,mPart,h1,h2]
    rfl
   clear h1 h2
   go_enter Tryz.func200,Tryz.ntmps200
   go_wp2_with fail
   refine (k1 _).mono ?_
   rintro e w2 ⟨rfl,hc2⟩
   go_wp2_with fail
   refine (k2 _).mono ?_
   rintro e w3 ⟨rfl,hc3⟩
   go_wp2
   go_ret2
   exact⟨by rw[hE.out];rfl,hc2.trans hc3⟩
 ·have k1:=fun W=>withinU_v x y true W hx hy h1
  have hE:Hid (Value.tuple #[.string (bs (mPartE x y)),.bool (canMeet x y)]=.tuple #[.string (bs x),.bool true]):=by
   show _=_
   rw[mPartE,canMeet,mPart,h1]
   rfl
  clear h1
  go_enter Tryz.func200,Tryz.ntmps200
  go_wp2_with fail
  refine (k1 _).mono ?_
  rintro e w2 ⟨rfl,hc2⟩
  go_wp2
  go_ret2
  exact⟨by rw[hE.out];rfl,hc2⟩
set_option maxHeartbeats 8000000 in
theorem meetU_long (p q:Pat) (A A':Option Addr) (c c':Nat) (w:World) (hp:PatU w A c p) (hq:PatU w A' c' q) (ep:patErr p=0) (eq:patErr q=0) (hl:q.parts.length≤p.parts.length) (hcm:compat p q=true) :
  Calls Tryz.prog 168 #[.agg #[.slice A p.parts.length c,.bool p.rest],.agg #[.slice A' q.parts.length c',.bool q.rest]] w fun e w'=>MeetEnd p q w.heap.size e w'∧Calm w w':=by
 obtain⟨n,hn⟩:∃n,p.parts.length=n:=⟨_,rfl⟩
 obtain⟨m,hm⟩:∃m,q.parts.length=m:=⟨_,rfl⟩
 obtain⟨re,hre⟩:∃re,p.rest=re:=⟨_,rfl⟩
 obtain⟨rf,hrf⟩:∃rf,q.rest=rf:=⟨_,rfl⟩
 have hnl:=hp.r.len
 have hml:=hq.r.len
 obtain⟨w1,hw1⟩:∃w1,w1=((w.alloc (.cells #[.slice A n c,.bool re] 65)).alloc (.cells #[.slice A' m c',.bool rf] 65)).alloc (.cells #[.slice none 0 0,.bool false] 65):=⟨_,rfl⟩
 have hc1:Calm w w1:=by rw[hw1];exact (((Calm.refl w).alloc _).alloc _).alloc _
 have hbox:Box3 w1 w.heap.size A n c re A' m c' rf:=by
  rw[hw1]
  exact⟨by simp,by simp[go_sem],by simp[go_sem],by simp[go_sem],by simp[go_sem],by simp[go_sem],by simp[go_sem],fun o=>by simp[go_sem],fun o=>by simp[go_sem],fun o=>by simp[go_sem]⟩
 have KP:Hid (∀W,Calm w1 W→Calls Tryz.prog 197 #[.agg #[.slice A n c,.bool re]] W fun e w'=>e=.returned (.int .i64 0)∧Calm W w'):=fun W hW=>checkU_c p n c re A W ((hp.calm hc1).calm hW) ep hn hre
 have KQ:Hid (∀W,Calm w1 W→Calls Tryz.prog 197 #[.agg #[.slice A' m c',.bool rf]] W fun e w'=>e=.returned (.int .i64 0)∧Calm W w'):=fun W hW=>checkU_c q m c' rf A' W ((hq.calm hc1).calm hW) eq hm hrf
 have KM:Hid (∀W,Calls Tryz.prog 199 #[.int .i64 n,.bool re,.int .i64 m,.bool rf] W fun e w'=>e=.returned (.bool true)∧W=w'):=fun W=>compatU_c n m re rf true W (by omega) (by omega) (by rw[←hn,←hm,←hre,←hrf];exact hcm)
 have KC:Hid (∀W,Calm w W→Calls Tryz.prog 118 #[.slice A n c] W fun e w'=>(∃A2 c2,e=.returned (.slice A2 n c2)∧NewS w' W.heap.size A2 c2 p.parts)∧Calm W w'):=fun W hW=>by
  have:=clone_c p.parts A c W (hp.calm hW).r
  unfold CloneEnd at this
  rw[hn] at this
  exact this
 have HLe:=Lib.hid hl
 rw[hn,hm] at hl
 rw[hn,hm,hre,hrf]
 rw[hn] at hnl
 rw[hm] at hml
 have HW:=Lib.hid hw1
 have HC:=Lib.hid hc1
 have HB:=Lib.hid hbox
 have HN:=Lib.hid (And.intro hn (And.intro hm (And.intro hre hrf)))
 have HP:=Lib.hid hp
 have HQ:=Lib.hid hq
 have HEp:=Lib.hid ep
 have HEq:=Lib.hid eq
 have HCm:=Lib.hid hcm
 clear hw1 hc1 hbox hn hm hre hrf hp hq ep eq hcm
 go_enter Tryz.func168,Tryz.ntmps168
 go_wp2_with fail
 rw[←HW.out]
 refine (KP.out w1 (Calm.refl _)).mono ?_
 rintro e w2 ⟨rfl,hc2⟩
 have b2:=HB.out.calm hc2
 have y0:=b2.y0
 have y1:=b2.y1
 clear b2
 go_wp2_with fail
 refine (KQ.out w2 hc2).mono ?_
 rintro e w3 ⟨rfl,hc3⟩
 have HB3:=Lib.hid (HB.out.calm (hc2.trans hc3))
 have x0:=HB3.out.x0
 have x1:=HB3.out.x1
 have y0:=HB3.out.y0
 have y1:=HB3.out.y1
 go_wp2_with fail
 refine (KM.out w3).mono ?_
 rintro e w4 ⟨rfl,rfl⟩
 go_wp2_with fail
 obtain⟨w5,hw5⟩:∃w5,w5=w3:=⟨_,rfl⟩
 rw[←hw5]
 have HB5:Hid (Box3 w5 w.heap.size A n c re A' m c' rf):=by rw[hw5];exact HB3.out
 have HC5:Hid (Calm w w5):=by rw[hw5];exact HC.out.trans (hc2.trans hc3)
 clear hw5 x0 x1 y0 y1 hc2 hc3
 refine (KC.out w5 HC5.out).mono ?_
 rintro e w6 ⟨⟨A2,c2,rfl,hn6⟩,hc6⟩
 have HC6:=Lib.hid (HC5.out.trans hc6)
 have HB6:=Lib.hid (HB5.out.calm hc6)
 have HN6:=Lib.hid (hn6.mono HB5.out.size)
 have y0:=HB6.out.y0
 clear hc6 hn6 KP KQ KM KC
 go_wp2_with fail
 go_loopw [48] (fun u wr=>∃k:Nat,k≤m∧u=.int .i64 k∧Hid (NewS wr (w.heap.size+3) A2 c2 (mixL p q k))∧Hid (Below (w.heap.size+3) w6 wr)∧Hid (∀j,j < k→canMeet (pAt p j) (pAt q j)=true)) (fun u _=>m - (intOf u).toNat)
 case atStart=>exact⟨0,Nat.zero_le _,rfl,by rw[mixL_zero];exact HN6.out,Below.refl _ _,fun j hj=>absurd hj (Nat.not_lt_zero _)⟩
 case round=>
  obtain⟨k,hk,rfl,HNk,HBk,HCk⟩:=hrel
  have HBx:=Lib.hid (HB6.out.low HBk.out)
  have HCr:Hid (Calm w wr):=Below.trans HC6.out (HBk.out.mono (by omega))
  by_cases hlt:k < m
  ·obtain⟨b,o,y,rfl,hb,hy,hyl,hcy⟩:=(HQ.out.calm HCr.out).r.get (k:=k) (by rw[HN.out.2.1];exact hlt)
   obtain⟨g,o2,x,rfl,hBg,hx,hxl,hcx⟩:=HNk.out.get (k:=k) (by rw[mixL_len,HN.out.1];omega)
   have hkx:k < p.parts.length:=by rw[HN.out.1];omega
   have hxe:x=pAt p k:=by
    rw[mixL_get hkx] at hx
    simpa using hx.symm
   have hye:y=pAt q k:=by
    rw[pAt_get (by rw[HN.out.2.1];exact hlt)] at hy
    exact (Option.some.inj hy).symm
   have hxl2:x.length≤1048576:=by
    rw[hxe]
    exact HP.out.r.each _ (List.mem_of_getElem? (pAt_get hkx))
   have hfr:=HNk.out.free k
   have hfr2:=HNk.out.free (o2+k)
   have hknx:k < n:=by omega
   obtain⟨v,hv⟩:∃v,canMeet x y=v:=⟨_,rfl⟩
   have hmp:=mtpartU_c x y v wr hxl2 hyl hv
   have hgb:g < wr.heap.size:=by
    obtain⟨cs,hh⟩:=HNk.out.row _ rfl
    exact heap_lt hh
   have HKx:=Lib.hid hkx
   have HXe:=Lib.hid (And.intro hxe hye)
   have HV:=Lib.hid hv
   have HGb:=Lib.hid hgb
   clear hx hy hxe hye hv hxl2 hkx hgb
   cases v with
   |false=>
    have hME:mPartE x y=[]:=by rw[mPartE,HV.out];rfl
    rw[hME] at hmp
    clear hME hfr hfr2
    go_wp2_with fail
    refine hmp.mono ?_
    rintro e w7 ⟨rfl,hc7⟩
    have b7:=HBx.out.calm hc7
    have z0:=b7.z0
    have z1:=b7.z1
    have f0:=b7.fz 0
    have f1:=b7.fz 1
    clear b7
    have hE:Hid (meetL p q=none):=by
     show meetL p q=none
     have h2:=HV.out
     rw[HXe.out.1,HXe.out.2] at h2
     have:=meetL_bad h2
     exact this
    have hc8:Calm w ((w7.setCell ⟨w.heap.size+2,0,none⟩ (.slice none 0 0)).setCell ⟨w.heap.size+2,1,none⟩ (.bool false)):=Below.setCell (Below.setCell (HCr.out.trans hc7) (by show w.heap.size≤w.heap.size+2;omega) _) (by show w.heap.size≤w.heap.size+2;omega) _
    clear hc7
    go_wp2
    refine bodyPost_ret (v:=.tuple #[.agg #[.slice none 0 0,.bool false],.bool false]) ?_ rfl ⟨.inr ⟨hE.out,rfl⟩,hc8⟩
    rw[results_cell_slot rfl]
    go_simp
   |true=>
    have hME:mPartE x y=mPart x y:=by rw[mPartE,HV.out];rfl
    rw[hME] at hmp
    have hzl:Hid ((mPart x y).length≤1048576):=by
     show (mPart x y).length≤1048576
     rcases mPart_or x y with e | e <;> rw[e] <;> omega
    clear hME
    go_wp2_with fail
    refine hmp.mono ?_
    rintro e w7 ⟨rfl,hc7⟩
    have hcx7:=(hc7.cell (p:=⟨g,o2+k,none⟩) HGb.out).trans hcx
    have hfr7:=(hc7.frozen (p:=⟨g,o2+k,none⟩) HGb.out).trans hfr2
    have HN7:=Lib.hid ((HNk.out.calm hc7).put (k:=k) (z:=mPart x y) (by rw[mixL_len,HN.out.1];omega) hzl.out)
    have HB7:=Lib.hid (HBk.out.trans (Below.setCell (p:=⟨g,o2+k,none⟩) (hc7.mono HBx.out.size) hBg (.string (bs (mPart x y)))))
    clear hc7 hfr hfr2 hcx
    go_wp2
    go_roundw
    case rel=>
     refine⟨k+1,by omega,by go_num,?_,HB7.out,fun j hj=>?_⟩
     ·rw[mixL_succ HKx.out,←HXe.out.1,←HXe.out.2]
      exact HN7.out
     ·by_cases e:j=k
      ·rw[e,←HXe.out.1,←HXe.out.2]
       exact HV.out
      ·exact HCk.out j (by omega)
    case measure=>simp[intOf];omega
  ·obtain rfl:k=m:=by omega
   have x1:=HBx.out.x1
   have y1:=HBx.out.y1
   have z0:=HBx.out.z0
   have z1:=HBx.out.z1
   have f0:=HBx.out.fz 0
   have f1:=HBx.out.fz 1
   have hE:Hid (meetL p q=some (mPat p q)):=by
    show meetL p q=_
    have:=meetL_yes (p:=p) (q:=q) (allOk_of HEp.out) (HLe.out) (HCm.out) (fun j hj=>HCk.out j (by rw[HN.out.2.1] at hj;exact hj))
    exact this
   have hML:Hid ((mPat p q).parts.length=n):=by
    show _=_
    rw[mPat_len,HN.out.1,HN.out.2.1]
    omega
   have hMR:Hid ((mPat p q).rest=(re && rf)):=by
    show _=_
    rw[←HN.out.2.2.1,←HN.out.2.2.2]
    rfl
   have hMN:Hid (NewS wr (w.heap.size+3) A2 c2 (mPat p q).parts):=by
    have:=HNk.out
    rw[mixL_end (allOk_of HEp.out) (HLe.out) (by rw[HN.out.2.1];exact Nat.le_refl _)] at this
    exact this
   have hMS:=fun (u0 u1:Value)=>Lib.hid (((hMN.out.set (p:=⟨w.heap.size+2,0,none⟩) u0 (Nat.lt_succ_self _)).set (p:=⟨w.heap.size+2,1,none⟩) u1 (Nat.lt_succ_self _)).mono (by omega:w.heap.size≤w.heap.size+3))
   have hc8:=fun (u0 u1:Value)=>Lib.hid (show Calm w ((wr.setCell ⟨w.heap.size+2,0,none⟩ u0).setCell ⟨w.heap.size+2,1,none⟩ u1) from Below.setCell (Below.setCell HCr.out (by show w.heap.size≤w.heap.size+2;omega) _) (by show w.heap.size≤w.heap.size+2;omega) _)
   cases re <;> cases rf
   all_goals
    go_wp2
    refine bodyPost_ret ?_ rfl ⟨.inl ⟨mPat p q,A2,c2,hE.out,by rw[hML.out,hMR.out],(hMS _ _).out⟩,(hc8 _ _).out⟩
    rw[results_cell_slot rfl]
    go_simp
set_option maxHeartbeats 8000000 in
theorem meetU_short (p q:Pat) (A A':Option Addr) (c c':Nat) (w:World) (hp:PatU w A c p) (hq:PatU w A' c' q) (ep:patErr p=0) (eq:patErr q=0) (hl:p.parts.length < q.parts.length) (hcm:compat p q=true) :
  Calls Tryz.prog 168 #[.agg #[.slice A p.parts.length c,.bool p.rest],.agg #[.slice A' q.parts.length c',.bool q.rest]] w fun e w'=>MeetEnd p q w.heap.size e w'∧Calm w w':=by
 obtain⟨n,hn⟩:∃n,p.parts.length=n:=⟨_,rfl⟩
 obtain⟨m,hm⟩:∃m,q.parts.length=m:=⟨_,rfl⟩
 obtain⟨re,hre⟩:∃re,p.rest=re:=⟨_,rfl⟩
 obtain⟨rf,hrf⟩:∃rf,q.rest=rf:=⟨_,rfl⟩
 have hnl:=hp.r.len
 have hml:=hq.r.len
 obtain⟨w1,hw1⟩:∃w1,w1=((w.alloc (.cells #[.slice A n c,.bool re] 65)).alloc (.cells #[.slice A' m c',.bool rf] 65)).alloc (.cells #[.slice none 0 0,.bool false] 65):=⟨_,rfl⟩
 have hc1:Calm w w1:=by rw[hw1];exact (((Calm.refl w).alloc _).alloc _).alloc _
 have hbox:Box3 w1 w.heap.size A n c re A' m c' rf:=by
  rw[hw1]
  exact⟨by simp,by simp[go_sem],by simp[go_sem],by simp[go_sem],by simp[go_sem],by simp[go_sem],by simp[go_sem],fun o=>by simp[go_sem],fun o=>by simp[go_sem],fun o=>by simp[go_sem]⟩
 have KP:Hid (∀W,Calm w1 W→Calls Tryz.prog 197 #[.agg #[.slice A n c,.bool re]] W fun e w'=>e=.returned (.int .i64 0)∧Calm W w'):=fun W hW=>checkU_c p n c re A W ((hp.calm hc1).calm hW) ep hn hre
 have KQ:Hid (∀W,Calm w1 W→Calls Tryz.prog 197 #[.agg #[.slice A' m c',.bool rf]] W fun e w'=>e=.returned (.int .i64 0)∧Calm W w'):=fun W hW=>checkU_c q m c' rf A' W ((hq.calm hc1).calm hW) eq hm hrf
 have KM:Hid (∀W,Calls Tryz.prog 199 #[.int .i64 n,.bool re,.int .i64 m,.bool rf] W fun e w'=>e=.returned (.bool true)∧W=w'):=fun W=>compatU_c n m re rf true W (by omega) (by omega) (by rw[←hn,←hm,←hre,←hrf];exact hcm)
 have KC:Hid (∀W,Calm w W→Calls Tryz.prog 118 #[.slice A' m c'] W fun e w'=>(∃A2 c2,e=.returned (.slice A2 m c2)∧NewS w' W.heap.size A2 c2 q.parts)∧Calm W w'):=fun W hW=>by
  have:=clone_c q.parts A' c' W (hq.calm hW).r
  unfold CloneEnd at this
  rw[hm] at this
  exact this
 have HLe:=Lib.hid hl
 rw[hn,hm] at hl
 rw[hn,hm,hre,hrf]
 rw[hn] at hnl
 rw[hm] at hml
 have HW:=Lib.hid hw1
 have HC:=Lib.hid hc1
 have HB:=Lib.hid hbox
 have HN:=Lib.hid (And.intro hn (And.intro hm (And.intro hre hrf)))
 have HP:=Lib.hid hp
 have HQ:=Lib.hid hq
 have HEp:=Lib.hid ep
 have HEq:=Lib.hid eq
 have HCm:=Lib.hid hcm
 clear hw1 hc1 hbox hn hm hre hrf hp hq ep eq hcm
 go_enter Tryz.func168,Tryz.ntmps168
 go_wp2_with fail
 rw[←HW.out]
 refine (KP.out w1 (Calm.refl _)).mono ?_
 rintro e w2 ⟨rfl,hc2⟩
 have b2:=HB.out.calm hc2
 have y0:=b2.y0
 have y1:=b2.y1
 clear b2
 go_wp2_with fail
 refine (KQ.out w2 hc2).mono ?_
 rintro e w3 ⟨rfl,hc3⟩
 have HB3:=Lib.hid (HB.out.calm (hc2.trans hc3))
 have x0:=HB3.out.x0
 have x1:=HB3.out.x1
 have y0:=HB3.out.y0
 have y1:=HB3.out.y1
 go_wp2_with fail
 refine (KM.out w3).mono ?_
 rintro e w4 ⟨rfl,rfl⟩
 have fx0:=HB3.out.fx 0
 have fx1:=HB3.out.fx 1
 have fy0:=HB3.out.fy 0
 have fy1:=HB3.out.fy 1
 go_wp2_with fail
 obtain⟨w5,hw5⟩:∃w5,w5=(((w3.setCell ⟨w.heap.size,0,none⟩ (.slice A' m c')).setCell ⟨w.heap.size,1,none⟩ (.bool rf)).setCell ⟨w.heap.size+1,0,none⟩ (.slice A n c)).setCell ⟨w.heap.size+1,1,none⟩ (.bool re):=⟨_,rfl⟩
 rw[←hw5]
 have HB5:Hid (Box3 w5 w.heap.size A' m c' rf A n c re):=by rw[hw5];exact HB3.out.swap
 have HC5:Hid (Calm w w5):=by
  rw[hw5]
  exact Below.setCell (Below.setCell (Below.setCell (Below.setCell (HC.out.trans (hc2.trans hc3)) (Nat.le_refl _) _) (Nat.le_refl _) _) (by show w.heap.size≤w.heap.size+1;omega) _) (by show w.heap.size≤w.heap.size+1;omega) _
 clear hw5 x0 x1 y0 y1 hc2 hc3 fx0 fx1 fy0 fy1
 refine (KC.out w5 HC5.out).mono ?_
 rintro e w6 ⟨⟨A2,c2,rfl,hn6⟩,hc6⟩
 have HC6:=Lib.hid (HC5.out.trans hc6)
 have HB6:=Lib.hid (HB5.out.calm hc6)
 have HN6:=Lib.hid (hn6.mono HB5.out.size)
 have y0:=HB6.out.y0
 clear hc6 hn6 KP KQ KM KC
 go_wp2_with fail
 go_loopw [48] (fun u wr=>∃k:Nat,k≤n∧u=.int .i64 k∧Hid (NewS wr (w.heap.size+3) A2 c2 (mixL q p k))∧Hid (Below (w.heap.size+3) w6 wr)∧Hid (∀j,j < k→canMeet (pAt q j) (pAt p j)=true)) (fun u _=>n - (intOf u).toNat)
 case atStart=>exact⟨0,Nat.zero_le _,rfl,by rw[mixL_zero];exact HN6.out,Below.refl _ _,fun j hj=>absurd hj (Nat.not_lt_zero _)⟩
 case round=>
  obtain⟨k,hk,rfl,HNk,HBk,HCk⟩:=hrel
  have HBx:=Lib.hid (HB6.out.low HBk.out)
  have HCr:Hid (Calm w wr):=Below.trans HC6.out (HBk.out.mono (by omega))
  by_cases hlt:k < n
  ·obtain⟨b,o,y,rfl,hb,hy,hyl,hcy⟩:=(HP.out.calm HCr.out).r.get (k:=k) (by rw[HN.out.1];exact hlt)
   obtain⟨g,o2,x,rfl,hBg,hx,hxl,hcx⟩:=HNk.out.get (k:=k) (by rw[mixL_len,HN.out.2.1];omega)
   have hkx:k < q.parts.length:=by rw[HN.out.2.1];omega
   have hxe:x=pAt q k:=by
    rw[mixL_get hkx] at hx
    simpa using hx.symm
   have hye:y=pAt p k:=by
    rw[pAt_get (by rw[HN.out.1];exact hlt)] at hy
    exact (Option.some.inj hy).symm
   have hxl2:x.length≤1048576:=by
    rw[hxe]
    exact HQ.out.r.each _ (List.mem_of_getElem? (pAt_get hkx))
   have hfr:=HNk.out.free k
   have hfr2:=HNk.out.free (o2+k)
   have hknx:k < m:=by omega
   obtain⟨v,hv⟩:∃v,canMeet x y=v:=⟨_,rfl⟩
   have hmp:=mtpartU_c x y v wr hxl2 hyl hv
   have hgb:g < wr.heap.size:=by
    obtain⟨cs,hh⟩:=HNk.out.row _ rfl
    exact heap_lt hh
   have HKx:=Lib.hid hkx
   have HXe:=Lib.hid (And.intro hxe hye)
   have HV:=Lib.hid hv
   have HGb:=Lib.hid hgb
   clear hx hy hxe hye hv hxl2 hkx hgb
   cases v with
   |false=>
    have hME:mPartE x y=[]:=by rw[mPartE,HV.out];rfl
    rw[hME] at hmp
    clear hME hfr hfr2
    go_wp2_with fail
    refine hmp.mono ?_
    rintro e w7 ⟨rfl,hc7⟩
    have b7:=HBx.out.calm hc7
    have z0:=b7.z0
    have z1:=b7.z1
    have f0:=b7.fz 0
    have f1:=b7.fz 1
    clear b7
    have hE:Hid (meetL p q=none):=by
     show meetL p q=none
     have h2:=HV.out
     rw[HXe.out.1,HXe.out.2] at h2
     have:=meetL_bad h2
     rw[meetL_comm (allOk_of HEp.out) (allOk_of HEq.out)];exact this
    have hc8:Calm w ((w7.setCell ⟨w.heap.size+2,0,none⟩ (.slice none 0 0)).setCell ⟨w.heap.size+2,1,none⟩ (.bool false)):=Below.setCell (Below.setCell (HCr.out.trans hc7) (by show w.heap.size≤w.heap.size+2;omega) _) (by show w.heap.size≤w.heap.size+2;omega) _
    clear hc7
    go_wp2
    refine bodyPost_ret (v:=.tuple #[.agg #[.slice none 0 0,.bool false],.bool false]) ?_ rfl ⟨.inr ⟨hE.out,rfl⟩,hc8⟩
    rw[results_cell_slot rfl]
    go_simp
   |true=>
    have hME:mPartE x y=mPart x y:=by rw[mPartE,HV.out];rfl
    rw[hME] at hmp
    have hzl:Hid ((mPart x y).length≤1048576):=by
     show (mPart x y).length≤1048576
     rcases mPart_or x y with e | e <;> rw[e] <;> omega
    clear hME
    go_wp2_with fail
    refine hmp.mono ?_
    rintro e w7 ⟨rfl,hc7⟩
    have hcx7:=(hc7.cell (p:=⟨g,o2+k,none⟩) HGb.out).trans hcx
    have hfr7:=(hc7.frozen (p:=⟨g,o2+k,none⟩) HGb.out).trans hfr2
    have HN7:=Lib.hid ((HNk.out.calm hc7).put (k:=k) (z:=mPart x y) (by rw[mixL_len,HN.out.2.1];omega) hzl.out)
    have HB7:=Lib.hid (HBk.out.trans (Below.setCell (p:=⟨g,o2+k,none⟩) (hc7.mono HBx.out.size) hBg (.string (bs (mPart x y)))))
    clear hc7 hfr hfr2 hcx
    go_wp2
    go_roundw
    case rel=>
     refine⟨k+1,by omega,by go_num,?_,HB7.out,fun j hj=>?_⟩
     ·rw[mixL_succ HKx.out,←HXe.out.1,←HXe.out.2]
      exact HN7.out
     ·by_cases e:j=k
      ·rw[e,←HXe.out.1,←HXe.out.2]
       exact HV.out
      ·exact HCk.out j (by omega)
    case measure=>simp[intOf];omega
  ·obtain rfl:k=n:=by omega
   have x1:=HBx.out.x1
   have y1:=HBx.out.y1
   have z0:=HBx.out.z0
   have z1:=HBx.out.z1
   have f0:=HBx.out.fz 0
   have f1:=HBx.out.fz 1
   have hE:Hid (meetL p q=some (mPat q p)):=by
    show meetL p q=_
    have:=meetL_yes (p:=q) (q:=p) (allOk_of HEq.out) (Nat.le_of_lt HLe.out) (compat_comm p q ▸ HCm.out) (fun j hj=>HCk.out j (by rw[HN.out.1] at hj;exact hj))
    rw[meetL_comm (allOk_of HEp.out) (allOk_of HEq.out)];exact this
   have hML:Hid ((mPat q p).parts.length=m):=by
    show _=_
    rw[mPat_len,HN.out.2.1,HN.out.1]
    omega
   have hMR:Hid ((mPat q p).rest=(rf && re)):=by
    show _=_
    rw[←HN.out.2.2.2,←HN.out.2.2.1]
    rfl
   have hMN:Hid (NewS wr (w.heap.size+3) A2 c2 (mPat q p).parts):=by
    have:=HNk.out
    rw[mixL_end (allOk_of HEq.out) (Nat.le_of_lt HLe.out) (by rw[HN.out.1];exact Nat.le_refl _)] at this
    exact this
   have hMS:=fun (u0 u1:Value)=>Lib.hid (((hMN.out.set (p:=⟨w.heap.size+2,0,none⟩) u0 (Nat.lt_succ_self _)).set (p:=⟨w.heap.size+2,1,none⟩) u1 (Nat.lt_succ_self _)).mono (by omega:w.heap.size≤w.heap.size+3))
   have hc8:=fun (u0 u1:Value)=>Lib.hid (show Calm w ((wr.setCell ⟨w.heap.size+2,0,none⟩ u0).setCell ⟨w.heap.size+2,1,none⟩ u1) from Below.setCell (Below.setCell HCr.out (by show w.heap.size≤w.heap.size+2;omega) _) (by show w.heap.size≤w.heap.size+2;omega) _)
   cases rf <;> cases re
   all_goals
    go_wp2
    refine bodyPost_ret ?_ rfl ⟨.inl ⟨mPat q p,A2,c2,hE.out,by rw[hML.out,hMR.out],(hMS _ _).out⟩,(hc8 _ _).out⟩
    rw[results_cell_slot rfl]
    go_simp
set_option maxHeartbeats 4000000 in
theorem meetU_far (p q:Pat) (A A':Option Addr) (c c':Nat) (w:World) (hp:PatU w A c p) (hq:PatU w A' c' q) (ep:patErr p=0) (eq:patErr q=0) (hcm:compat p q=false) :
  Calls Tryz.prog 168 #[.agg #[.slice A p.parts.length c,.bool p.rest],.agg #[.slice A' q.parts.length c',.bool q.rest]] w fun e w'=>MeetEnd p q w.heap.size e w'∧Calm w w':=by
 obtain⟨n,hn⟩:∃n,p.parts.length=n:=⟨_,rfl⟩
 obtain⟨m,hm⟩:∃m,q.parts.length=m:=⟨_,rfl⟩
 obtain⟨re,hre⟩:∃re,p.rest=re:=⟨_,rfl⟩
 obtain⟨rf,hrf⟩:∃rf,q.rest=rf:=⟨_,rfl⟩
 have hnl:=hp.r.len
 have hml:=hq.r.len
 obtain⟨w1,hw1⟩:∃w1,w1=((w.alloc (.cells #[.slice A n c,.bool re] 65)).alloc (.cells #[.slice A' m c',.bool rf] 65)).alloc (.cells #[.slice none 0 0,.bool false] 65):=⟨_,rfl⟩
 have hc1:Calm w w1:=by rw[hw1];exact (((Calm.refl w).alloc _).alloc _).alloc _
 have hbox:Box3 w1 w.heap.size A n c re A' m c' rf:=by
  rw[hw1]
  exact⟨by simp,by simp[go_sem],by simp[go_sem],by simp[go_sem],by simp[go_sem],by simp[go_sem],by simp[go_sem],fun o=>by simp[go_sem],fun o=>by simp[go_sem],fun o=>by simp[go_sem]⟩
 have KP:Hid (∀W,Calm w1 W→Calls Tryz.prog 197 #[.agg #[.slice A n c,.bool re]] W fun e w'=>e=.returned (.int .i64 0)∧Calm W w'):=fun W hW=>checkU_c p n c re A W ((hp.calm hc1).calm hW) ep hn hre
 have KQ:Hid (∀W,Calm w1 W→Calls Tryz.prog 197 #[.agg #[.slice A' m c',.bool rf]] W fun e w'=>e=.returned (.int .i64 0)∧Calm W w'):=fun W hW=>checkU_c q m c' rf A' W ((hq.calm hc1).calm hW) eq hm hrf
 rw[hn] at hnl
 rw[hm] at hml
 have KM:Hid (∀W,Calls Tryz.prog 199 #[.int .i64 n,.bool re,.int .i64 m,.bool rf] W fun e w'=>e=.returned (.bool false)∧W=w'):=fun W=>compatU_c n m re rf false W (by omega) (by omega) (by rw[←hn,←hm,←hre,←hrf];exact hcm)
 have hE:=Lib.hid (meetL_far hcm)
 rw[hn,hm,hre,hrf]
 have HW:=Lib.hid hw1
 have HC:=Lib.hid hc1
 have HB:=Lib.hid hbox
 clear hw1 hc1 hbox hn hm hre hrf hp hq ep eq hcm
 go_enter Tryz.func168,Tryz.ntmps168
 go_wp2_with fail
 rw[←HW.out]
 refine (KP.out w1 (Calm.refl _)).mono ?_
 rintro e w2 ⟨rfl,hc2⟩
 have b2:=HB.out.calm hc2
 have y0:=b2.y0
 have y1:=b2.y1
 clear b2
 go_wp2_with fail
 refine (KQ.out w2 hc2).mono ?_
 rintro e w3 ⟨rfl,hc3⟩
 have HB3:=Lib.hid (HB.out.calm (hc2.trans hc3))
 have x0:=HB3.out.x0
 have x1:=HB3.out.x1
 have y0:=HB3.out.y0
 have y1:=HB3.out.y1
 have z0:=HB3.out.z0
 have z1:=HB3.out.z1
 have f0:=HB3.out.fz 0
 have f1:=HB3.out.fz 1
 go_wp2_with fail
 refine (KM.out w3).mono ?_
 rintro e w4 ⟨rfl,rfl⟩
 have hc8:Calm w ((w3.setCell ⟨w.heap.size+2,0,none⟩ (.slice none 0 0)).setCell ⟨w.heap.size+2,1,none⟩ (.bool false)):=Below.setCell (Below.setCell (HC.out.trans (hc2.trans hc3)) (by show w.heap.size≤w.heap.size+2;omega) _) (by show w.heap.size≤w.heap.size+2;omega) _
 clear hc2 hc3
 go_wp2
 refine bodyPost_ret (v:=.tuple #[.agg #[.slice none 0 0,.bool false],.bool false]) ?_ rfl ⟨.inr ⟨hE.out,rfl⟩,hc8⟩
 rw[results_cell_slot rfl]
 go_simp
theorem meetU_c (p q:Pat) (A A':Option Addr) (c c':Nat) (w:World) (hp:PatU w A c p) (hq:PatU w A' c' q) (ep:patErr p=0) (eq:patErr q=0) :
  Calls Tryz.prog 168 #[.agg #[.slice A p.parts.length c,.bool p.rest],.agg #[.slice A' q.parts.length c',.bool q.rest]] w fun e w'=>MeetEnd p q w.heap.size e w'∧Calm w w':=by
 rcases hcm:compat p q with _ | _
 ·exact meetU_far p q A A' c c' w hp hq ep eq hcm
 rcases Nat.lt_or_ge p.parts.length q.parts.length with h | h
 ·exact meetU_short p q A A' c c' w hp hq ep eq h hcm
 ·exact meetU_long p q A A' c c' w hp hq ep eq h hcm
theorem meetU_v (p q:Pat) (A A':Option Addr) (n m c c':Nat) (re rf v:Bool) (w:World) (hp:PatU w A c p) (hq:PatU w A' c' q) (ep:patErr p=0) (eq:patErr q=0) (hn:p.parts.length=n) (hm:q.parts.length=m) (hre:p.rest=re) (hrf:q.rest=rf) (hv:(meetP p q).isSome=v) :
  Calls Tryz.prog 168 #[.agg #[.slice A n c,.bool re],.agg #[.slice A' m c',.bool rf]] w fun e w'=>(∃A2 n2 c2 r2,e=.returned (.tuple #[.agg #[.slice A2 n2 c2,.bool r2],.bool v]))∧Calm w w':=by
 rw[meetP,if_pos ⟨ep,eq⟩] at hv
 subst hn hm hre hrf hv
 refine (meetU_c p q A A' c c' w hp hq ep eq).mono fun e w' ⟨h1,h2⟩=>⟨?_,h2⟩
 rcases h1 with⟨m',A2,c2,h3,h4,h5⟩ | ⟨h3,h4⟩
 ·rw[h3]
  exact⟨A2,_,c2,_,h4⟩
 ·rw[h3]
  exact⟨none,0,0,false,h4⟩
structure Oth (w1 wr:World) (v:Value) (l:List NewP):Prop where
 own:OwnX encP 2 65 w1 wr v l
 each:∀y∈l,PatU w1 y.A y.c y.p∧patErr y.p=0
theorem Oth.to {w1 wr w2:World} {v:Value} {l:List NewP} (h:Oth w1 wr v l) (hc:Calm wr w2):Oth w1 w2 v l:=⟨h.own.to hc,h.each⟩
theorem Oth.calm {w1 wr:World} {v:Value} {l:List NewP} (h:Oth w1 wr v l):Calm w1 wr:=h.own.calm
theorem Oth.shape {w1 wr:World} {v:Value} {l:List NewP} (h:Oth w1 wr v l):∃A c,v=.slice A l.length c∧(0 < l.length→∃g,A=some ⟨g,0,none⟩∧g < wr.heap.size∧∀(k:Nat) y,l[k]?=some y→wr.cell? ⟨g,k * 2,none⟩=some (.slice y.A y.p.parts.length y.c)∧wr.cell? ⟨g,k * 2+1,none⟩=some (.bool y.p.rest)):=by
 rcases h.own.row encP_len with⟨rfl,h0⟩ | ⟨g,c,rfl,h1,h2,_,hr⟩
 ·subst h0
  exact⟨none,0,rfl,fun h=>absurd h (Nat.lt_irrefl _)⟩
 ·refine⟨_,c,rfl,fun _=>⟨g,rfl,hr.lt,fun k y hk=>?_⟩⟩
  have e0:=hr.cell k y hk 0 _ rfl
  have e1:=hr.cell k y hk 1 _ rfl
  simp only[Nat.zero_add,Nat.add_zero] at e0 e1
  exact⟨e0,e1⟩
theorem othersOf_succ {ss:List Strm} {l:List Nat} {k p:Nat} (h:l[k]?=some p):othersOf ss (l.take (k+1))=othersOf ss (l.take k)++impsOf (strm ss p).paths:=by
 obtain⟨hlt,rfl⟩:=List.getElem?_eq_some_iff.1 h
 unfold othersOf
 rw[List.take_succ_eq_append_getElem hlt,List.flatMap_append,List.flatMap_singleton]
theorem impsOf_yes {ls:List Line} {k:Nat} {x:Line} (h:ls[k]?=some x) (h3:x.kind=3):impsOf (ls.take (k+1))=impsOf (ls.take k)++[x.frm]:=by
 obtain⟨hlt,rfl⟩:=List.getElem?_eq_some_iff.1 h
 unfold impsOf
 rw[List.take_succ_eq_append_getElem hlt,List.filter_append,List.map_append]
 simp only[List.filter_cons,List.filter_nil,beq_iff_eq,h3,if_true,if_false,List.map_cons,List.map_nil,List.append_nil,Bool.false_eq_true]
theorem impsOf_no {ls:List Line} {k:Nat} {x:Line} (h:ls[k]?=some x) (h3:¬x.kind=3):impsOf (ls.take (k+1))=impsOf (ls.take k):=by
 obtain⟨hlt,rfl⟩:=List.getElem?_eq_some_iff.1 h
 unfold impsOf
 rw[List.take_succ_eq_append_getElem hlt,List.filter_append,List.map_append]
 simp only[List.filter_cons,List.filter_nil,beq_iff_eq,h3,if_true,if_false,List.map_cons,List.map_nil,List.append_nil,Bool.false_eq_true]
theorem badFrom_no {ss:List Strm} {i:Nat} {os:List Pat} {ls:List Line} {k:Nat} {x:Line} (h:ls[k]?=some x) (h3:¬x.kind=3):badFrom ss i os (ls.drop k)=badFrom ss i os (ls.drop (k+1)):=by
 obtain⟨hlt,rfl⟩:=List.getElem?_eq_some_iff.1 h
 rw[List.drop_eq_getElem_cons hlt]
 conv=>lhs;unfold badFrom
 rw[if_neg h3]
theorem badFrom_yes {ss:List Strm} {i:Nat} {os:List Pat} {ls:List Line} {k:Nat} {x:Line} (h:ls[k]?=some x) (h3:x.kind=3):badFrom ss i os (ls.drop k)=(sameTree ss i (x.frm.parts.getD 0 []) || os.any (fun o=>(meetP x.frm o).isSome) || badFrom ss i (os++[x.frm]) (ls.drop (k+1))):=by
 obtain⟨hlt,rfl⟩:=List.getElem?_eq_some_iff.1 h
 rw[List.drop_eq_getElem_cons hlt]
 conv=>lhs;unfold badFrom
 rw[if_pos h3]
theorem enc_new (W:World) (y:NewP) {n nf:Nat} {rf:Bool} (hn:W.heap.size=n) (h2:y.p.parts.length=nf) (h4:y.p.rest=rf):∀(j:Nat) u,(encP y)[j]?=some u→(W.alloc (.cells #[.slice y.A nf y.c,.bool rf] 65)).cell? ⟨n,j,none⟩=some u:=fun j u hj=>by
 subst hn h2 h4
 match j,hj with
 |0,hj=>obtain rfl:=Option.some.inj hj;simp[go_sem]
 |1,hj=>obtain rfl:=Option.some.inj hj;simp[go_sem]
 |j+2,hj=>simp[encP] at hj
def treeV (ss:List Strm) (ti:Nat):Option Nat→Bool
 |none=>false
 |some j=>topI ss j == ti
theorem frm_pat {w:World} {a:Pl} {x:Line} (h:RuleU w a x.rule):PatU w a.AR a.cr x.frm:=⟨h.rr,h.rroom,h.rcap⟩
set_option maxRecDepth 100000 in
set_option maxHeartbeats 8000000 in
theorem badimp_c (ss:List Strm) (F:Nat) (A:Option Addr) (n c i:Nat) (w:World) (hf:ForestAt w F A n c ss) (hi:i < n) (hn16:n≤1000) (hgd:∀j,j < n→(∀x∈(strm ss j).paths,lineOk x=true)∧(strm ss j).paths.length≤12) :
  Calls Tryz.prog 129 #[.pointer (some ⟨F,0,none⟩),.int .i64 i] w fun e w'=>e=.returned (.int .i64 (impErr ss i))∧Calm w w':=by
 have hk:=above_c ss F A n c i w hf hi
 have hlen:Hid ((above ss i).length≤n):=by
  show _≤n
  rw[←hf.hn]
  exact aboveN_len _ _
 obtain⟨l0,hl⟩:∃l,above ss i=l:=⟨_,rfl⟩
 have hel:Hid (∀p∈l0,p < n):=fun p hp=>by
  rw[←hf.hn]
  exact above_lt (i:=i) (by rw[hl];exact hp)
 obtain⟨m,hm⟩:∃m,l0.length=m:=⟨_,rfl⟩
 unfold AboveEnd at hk
 rw[hl,hm] at hk
 have hmn:m≤n:=by rw[←hm,←hl];exact hlen.out
 have hE:Hid (impErr ss i=if badFrom ss i (othersOf ss l0) (strm ss i).paths then 85 else 0):=by
  show _=_
  unfold impErr badImp
  rw[hl]
 have HM:=Lib.hid hm
 have HF:=Lib.hid hf
 have HG:=Lib.hid hgd
 have hltF:=hf.lt
 have hhn:=Lib.hid hf.hn
 clear hf hl hm hlen hgd
 go_enter Tryz.func129,Tryz.ntmps129
 go_wp2_with (go_at_call 166;refine hk.mono ?_;rintro e w1 ⟨⟨VA,vc,rfl,hia⟩,hc1⟩)
 have HI:=Lib.hid hia
 have HC1:=Lib.hid hc1
 have HF1:=Lib.hid (HF.out.calm hc1)
 clear hia hc1 hk
 go_loopw [5,22] (fun v q wr=>∃(k:Nat) (l:List NewP),k≤m∧q=.int .i64 k∧l.length≤k * 12∧Hid (Oth w1 wr v l)∧Hid (l.map (·.p)=othersOf ss (l0.take k))) (fun _ q _=>m - (intOf q).toNat)
 case atStart=>exact⟨0,[],Nat.zero_le _,rfl,by simp,⟨OwnX.nil (Calm.refl _),fun y hy=>by cases hy⟩,rfl⟩
 case round=>
  obtain⟨k,l,hk,rfl,hll,HO,HL⟩:=hrel
  by_cases hlt:k < m
  ·obtain⟨p,hp⟩:∃x,l0[k]?=some x:=⟨_,List.getElem?_eq_getElem (by rw[HM.out];exact hlt)⟩
   obtain⟨g,rfl,hg,hat⟩:=HI.out.calm HO.out.calm (by rw[HM.out];omega)
   have c0:=hat k p hp
   have hpn:p < n:=hel.out p (List.mem_of_getElem? hp)
   have HP:=Lib.hid hp
   have f0:=Calm.at_ HO.out.calm HF1.out.c0 HF1.out.lt
   obtain⟨b,o,s,PA,pc,rfl,hb,hr,hsat,hsu⟩:=HF1.out.strms.get (k:=p) (by rw[hhn.out];exact hpn)
   have c2:=Calm.at_ HO.out.calm hsat.c2 hb
   obtain⟨np,hnp⟩:∃np,s.paths.length=np:=⟨_,rfl⟩
   rw[hnp] at c2
   have hss:=strm_at hr
   have hnp12:np≤12:=by rw[←hnp,←hss];exact (HG.out p hpn).2
   have HGp:Hid (∀x∈s.paths,lineOk x=true):=by show ∀_,_;rw[←hss];exact (HG.out p hpn).1
   have HNp:=Lib.hid hnp
   have HLs:=Lib.hid hsu.lines
   have HSS:=Lib.hid hss
   clear hat hp hr hsat hsu hnp hss
   go_wp2_with fail
   go_loopw [5,35] (fun v q wr=>∃(k2:Nat) (l2:List NewP),k2≤np∧q=.int .i64 k2∧l2.length≤k * 12+k2∧Hid (Oth w1 wr v l2)∧Hid (l2.map (·.p)=othersOf ss (l0.take k)++impsOf (s.paths.take k2))) (fun _ q _=>np - (intOf q).toNat)
   case atStart=>exact⟨0,l,Nat.zero_le _,rfl,by omega,HO.out,by show _=_;rw[HL.out,List.take_zero];show _=_++[];rw[List.append_nil]⟩
   case round=>
    obtain⟨k2,l2,hk2,rfl,hl2,HO2,HL2⟩:=hrel
    by_cases hlt2:k2 < np
    ·obtain⟨b',o',x,a,rfl,hb',hx,hxa,hru⟩:=HLs.out.get (k:=k2) (by rw[HNp.out];exact hlt2)
     have hxa:=hxa.calm HO2.out.calm hb'
     have d0:=hxa.c0
     have d1:=hxa.c1
     have d2:=hxa.c2
     have d3:=hxa.c3
     have d4:=hxa.c4
     obtain⟨κ,h0⟩:∃κ,x.kind=κ:=⟨_,rfl⟩
     obtain⟨npp,h1⟩:∃npp,x.path.parts.length=npp:=⟨_,rfl⟩
     obtain⟨nf,h2⟩:∃nf,x.frm.parts.length=nf:=⟨_,rfl⟩
     obtain⟨rp,h3⟩:∃rp,x.path.rest=rp:=⟨_,rfl⟩
     obtain⟨rf,h4⟩:∃rf,x.frm.rest=rf:=⟨_,rfl⟩
     rw[h0] at d0
     rw[h1] at d1
     rw[h3] at d2
     rw[h2] at d3
     rw[h4] at d4
     have HX:=Lib.hid hx
     have HRU:=Lib.hid hru
     have HXf:=Lib.hid (And.intro h0 (And.intro h2 h4))
     have hbox:=enc_new (wr.alloc (.cells #[.int .i64 κ,.slice a.AL npp a.cl,.bool rp,.slice a.AR nf a.cr,.bool rf] 68)) ⟨a.AR,a.cr,x.frm⟩ (n:=wr.heap.size+1) (by simp) h2 h4
     have HBx:=Lib.hid hbox
     clear hxa hru h0 h1 h2 h3 h4 hx hbox
     by_cases hκ:κ=3
     ·subst hκ
      go_wp2_with (at_builtin;refine wpList_append_p rfl (.tmp 42) (.tmp 45) rfl w1 _ l2 rfl (HO2.out.own.to (((Calm.refl wr).alloc _).alloc _)) (wr.heap.size+1) 1 rfl ⟨a.AR,a.cr,x.frm⟩ HBx.out (by omega) ?_;intro v5 w5 hown5 hg5)
      go_roundw
      case rel=>
       refine⟨k2+1,l2++[⟨a.AR,a.cr,x.frm⟩],by omega,by go_num,by rw[List.length_append];simp;omega,⟨hown5,fun y hy=>?_⟩,?_⟩
       ·rcases List.mem_append.1 hy with hy | hy
        ·exact HO2.out.each y hy
        ·rw[List.mem_singleton] at hy
         subst hy
         exact⟨frm_pat HRU.out,(lineOk_import (HGp.out x (List.mem_of_getElem? HX.out)) HXf.out.1).2.2⟩
       ·show _=_
        rw[List.map_append,HL2.out,impsOf_yes HX.out HXf.out.1,List.append_assoc]
        rfl
      case measure=>simp[intOf];omega
     ·have hκb:(κ == 3)=false:=by simpa using hκ
      have HK:=Lib.hid hκ
      clear hκ
      go_wp2_with fail
      go_roundw
      case rel=>
       refine⟨k2+1,l2,by omega,by go_num,by omega,HO2.out.to ((Calm.refl wr).alloc _),?_⟩
       show _=_
       rw[HL2.out,impsOf_no HX.out (by rw[HXf.out.1];exact HK.out)]
      case measure=>simp[intOf];omega
    ·obtain rfl:k2=np:=by omega
     go_wp2_with fail
     go_roundw
     case rel=>
      refine⟨k+1,l2,by omega,by go_num,by omega,HO2.out,?_⟩
      show _=_
      rw[HL2.out,othersOf_succ HP.out,HSS.out,List.take_of_length_le (l:=s.paths) (by rw[HNp.out];exact Nat.le_refl _)]
     case measure=>simp[intOf];omega
  ·obtain rfl:k=m:=by omega
   have HLk:Hid (l.map (·.p)=othersOf ss l0):=by
    show _=_
    rw[HL.out,List.take_of_length_le (by rw[HM.out];exact Nat.le_refl _)]
   have f0:=Calm.at_ HO.out.calm HF1.out.c0 HF1.out.lt
   obtain⟨b,o,s,PA,pc,rfl,hb,hr,hsat,hsu⟩:=HF1.out.strms.get (k:=i) (by rw[hhn.out];exact hi)
   have c2:=Calm.at_ HO.out.calm hsat.c2 hb
   obtain⟨np,hnp⟩:∃np,s.paths.length=np:=⟨_,rfl⟩
   rw[hnp] at c2
   have hss:=strm_at hr
   have hnp12:np≤12:=by rw[←hnp,←hss];exact (HG.out i hi).2
   have HGp:Hid (∀x∈s.paths,lineOk x=true):=by show ∀_,_;rw[←hss];exact (HG.out i hi).1
   have HNp:=Lib.hid hnp
   have HLs:=Lib.hid hsu.lines
   have hE2:Hid (impErr ss i=if badFrom ss i (othersOf ss l0) s.paths then 85 else 0):=by rw[←hss];exact hE
   obtain⟨Bi,hBi,hIx⟩:=HF1.out.idx
   have HBi:=Lib.hid hBi
   have HIx:=Lib.hid hIx
   have KT:Hid (∀(W:World) (j:Nat),Calm w1 W→j < n→Calls Tryz.prog 167 #[.pointer (some ⟨F,0,none⟩),.int .i64 j] W fun e w'=>e=.returned (.int .i64 (topI ss j:Nat))∧Calm W w'):=fun W j hW hj=>top_c ss F _ n c j W (HF1.out.calm hW) hj
   obtain⟨ti,hti⟩:∃ti,topI ss i=ti:=⟨_,rfl⟩
   have HTi:=Lib.hid hti
   have HIs:=Lib.hid (And.intro hlt HF1.out.lt)
   clear hr hsat hsu hnp hss hBi hIx hE hti
   go_wp2_with fail
   go_loopw [5,58] (fun v q wr=>∃(k3:Nat) (l3:List NewP),k3≤np∧q=.int .i64 k3∧l3.length≤k * 12+k3∧Hid (Oth w1 wr v l3)∧Hid (badFrom ss i (othersOf ss l0) s.paths=badFrom ss i (l3.map (·.p)) (s.paths.drop k3))) (fun _ q _=>np - (intOf q).toNat)
   case atStart=>exact⟨0,l,Nat.zero_le _,rfl,by omega,HO.out,by show _=_;rw[HLk.out];rfl⟩
   case round=>
    obtain⟨k3,l3,hk3,rfl,hl3,HO30,HB3⟩:=hrel
    obtain⟨wq,rfl⟩:∃wq,wq=wr:=⟨_,rfl⟩
    obtain⟨OA,oc,rfl,hosh⟩:=HO30.out.shape
    obtain⟨L,hL⟩:∃L,l3.length=L:=⟨_,rfl⟩
    have HO3:Hid (Oth w1 wq (.slice OA L oc) l3):=by rw[←hL];exact HO30
    rw[hL] at hl3 hosh ⊢
    have HOS:=Lib.hid hosh
    have HLL:=Lib.hid hL
    clear HO30 hosh hL
    by_cases hlt3:k3 < np
    ·obtain⟨b',o',x,a,rfl,hb',hx,hxa,hru⟩:=HLs.out.get (k:=k3) (by rw[HNp.out];exact hlt3)
     have hxa:=hxa.calm HO3.out.calm hb'
     have d0:=hxa.c0
     have d1:=hxa.c1
     have d2:=hxa.c2
     have d3:=hxa.c3
     have d4:=hxa.c4
     obtain⟨κ,h0⟩:∃κ,x.kind=κ:=⟨_,rfl⟩
     obtain⟨npp,h1⟩:∃npp,x.path.parts.length=npp:=⟨_,rfl⟩
     obtain⟨nf,h2⟩:∃nf,x.frm.parts.length=nf:=⟨_,rfl⟩
     obtain⟨rp,h3⟩:∃rp,x.path.rest=rp:=⟨_,rfl⟩
     obtain⟨rf,h4⟩:∃rf,x.frm.rest=rf:=⟨_,rfl⟩
     rw[h0] at d0
     rw[h1] at d1
     rw[h3] at d2
     rw[h2] at d3
     rw[h4] at d4
     have HX:=Lib.hid hx
     have HRU:=Lib.hid hru
     have HXf:=Lib.hid (And.intro h0 (And.intro h2 h4))
     clear hxa hru h0 h1 h2 h3 h4 hx
     by_cases hκ:κ=3
     ·subst hκ
      have hlok:=lineOk_import (HGp.out x (List.mem_of_getElem? HX.out)) HXf.out.1
      obtain⟨bk,ok,z,hA,hbk,hz,hzl,hcell⟩:=HRU.out.rr.get (k:=0) (by have:=(patErr_form hlok.2.2).1;exact this)
      obtain⟨AL,cl,AR,cr⟩:=a
      simp only at hA
      subst hA
      rw[Nat.add_zero] at hcell
      have hnf0:0 < nf:=by have:=(patErr_form hlok.2.2).1;rw[HXf.out.2.1] at this;exact this
      have hz2:x.frm.parts.getD 0 []=z:=by
       have e:x.frm.parts[0]?=some z:=hz
       simp[List.getD_eq_getElem?_getD,e]
      have HZ:=Lib.hid hz2
      have HEp:=Lib.hid hlok.2.2
      have hfrm:=Lib.hid (frm_pat HRU.out)
      obtain⟨wB,hwB⟩:∃wB,wB=wq.alloc (.cells #[.int .i64 3,.slice AL npp cl,.bool rp,.slice (some ⟨bk,ok,none⟩) nf cr,.bool rf] 68):=⟨_,rfl⟩
      have hcB:Calm wq wB:=by rw[hwB];exact (Calm.refl wq).alloc _
      have hbx:BoxL wB wq.heap.size ⟨AL,cl,some ⟨bk,ok,none⟩,cr⟩ 3 npp nf rp rf:=by rw[hwB];exact BoxL.new wq ⟨AL,cl,some ⟨bk,ok,none⟩,cr⟩ 3 npp nf rp rf
      have hcw:Calm w1 wB:=HO3.out.calm.trans hcB
      have HWB:=Lib.hid hwB
      have HBX:=Lib.hid hbx
      have HCB:=Lib.hid hcB
      have HCW:=Lib.hid hcw
      have b0:=hbx.c0
      rw[hwB] at b0
      clear hlok hz hz2 hwB hcB
      obtain⟨fi,hfi⟩:∃fi,findI ss z=fi:=⟨_,rfl⟩
      have e0:=fun p:CalmTo wB=>p.cell (Calm.at_ hcw HBi.out HIs.out.2) (Nat.lt_of_lt_of_le HIs.out.2 hcw.size)
      have e1:=fun p:CalmTo wB=>p.cell hbx.c3 hbx.lt
      have e2:=fun p:CalmTo wB=>p.cell (Calm.at_ hcw hcell hbk) (Nat.lt_of_lt_of_le hbk hcw.size)
      have e3:=fun p:CalmTo wB=>(HIx.out.2 p.w z (hcw.trans p.h) hzl).1
      rw[hfi] at e3
      have HFi:=Lib.hid hfi
      clear hbx hcw hfi
      have hST:Hid (sameTree ss i z=treeV ss ti fi):=by
       show _=_
       rw[←HFi.out,←HTi.out]
       rfl
      go_wp2_with fail
      rw[←HWB.out]
      clear b0
      refine wp_region_calm (by kernel_rfl) (by kernel_rfl) ?_
      repeat (go_big_quiet_step (fail))
      refine wpQuiet_nil ?_
      intro w7 hc7
      have HC7:=Lib.hid hc7
      clear hc7 e0 e1 e2 e3
      cases fi with
      |none=>
       have hSTf:Hid (sameTree ss i z=false):=hST
       have HCx:=HC7
       simp only[Option.getD_none,Option.isSome_none,Int.cast_ofNat_Int]
       have HO4:Hid (Oth w1 w7 (.slice OA L oc) l3):=HO3.out.to (HCB.out.trans HCx.out)
       have HST0:Hid (sameTree ss i (x.frm.parts.getD 0 [])=false):=by rw[HZ.out];exact hSTf
       go_wp2_with fail
       go_loopw [90] (fun q wr=>∃k4:Nat,k4≤L∧q=.int .i64 k4∧Hid (Calm w7 wr)∧Hid (∀j y,j < k4→l3[j]?=some y→meetP x.frm y.p=none)) (fun q _=>L - (intOf q).toNat)
       case atStart=>exact⟨0,Nat.zero_le _,rfl,Calm.refl _,fun j y hj=>absurd hj (Nat.not_lt_zero _)⟩
       case round=>
        obtain⟨k4,hk4,rfl,HC4,HG4⟩:=hrel
        have z3:=(HBX.out.calm (HCx.out.trans HC4.out)).c3
        have z4:=(HBX.out.calm (HCx.out.trans HC4.out)).c4
        simp only at z3
        by_cases hlt4:k4 < L
        ·obtain⟨y,hy⟩:∃y,l3[k4]?=some y:=⟨_,List.getElem?_eq_getElem (by rw[HLL.out];exact hlt4)⟩
         obtain⟨g,rfl,hg,hcl⟩:=HOS.out (by omega)
         have hca:Calm wq wr:=HCB.out.trans (HCx.out.trans HC4.out)
         have y0:=Calm.at_ hca (hcl k4 y hy).1 hg
         have y1:=Calm.at_ hca (hcl k4 y hy).2 hg
         obtain⟨ny,hny⟩:∃ny,y.p.parts.length=ny:=⟨_,rfl⟩
         obtain⟨ry,hry⟩:∃ry,y.p.rest=ry:=⟨_,rfl⟩
         rw[hny] at y0
         rw[hry] at y1
         obtain⟨vm,hvm⟩:∃vm,(meetP x.frm y.p).isSome=vm:=⟨_,rfl⟩
         have hye:=HO3.out.each y (List.mem_of_getElem? hy)
         have KM:Hid (∀W,Calm wr W→Calls Tryz.prog 168 #[.agg #[.slice (some ⟨bk,ok,none⟩) nf cr,.bool rf],.agg #[.slice y.A ny y.c,.bool ry]] W fun e w'=>(∃A2 n2 c2 r2,e=.returned (.tuple #[.agg #[.slice A2 n2 c2,.bool r2],.bool vm]))∧Calm W w'):=fun W hW=>by
          have hcw2:Calm w1 W:=(HO3.out.calm.trans hca).trans hW
          exact meetU_v x.frm y.p _ _ nf ny cr y.c rf ry vm W (hfrm.out.calm hcw2) (hye.1.calm hcw2) HEp.out hye.2 HXf.out.2.1 hny HXf.out.2.2 hry hvm
         have HY:=Lib.hid hy
         have hcA:Calm wr (wr.alloc (.cells #[.slice y.A ny y.c,.bool ry] 65)):=(Calm.refl wr).alloc _
         have z5:=(HBX.out.calm ((HCx.out.trans HC4.out).trans hcA)).c3
         have z6:=(HBX.out.calm ((HCx.out.trans HC4.out).trans hcA)).c4
         simp only at z5
         clear z3 z4 hcA
         have HVM:=Lib.hid hvm
         clear hy hcl hny hry hvm hye
         cases vm with
         |true=>
          have hE3:Hid (impErr ss i=85):=by
           show _=_
           rw[hE2.out,HB3.out,badFrom_yes HX.out HXf.out.1]
           have:(l3.map (·.p)).any (fun o=>(meetP x.frm o).isSome)=true:=List.any_eq_true.2 ⟨y.p,List.mem_map.2 ⟨y,List.mem_of_getElem? HY.out,rfl⟩,HVM.out⟩
           rw[this]
           simp
          go_wp2_with (go_at_call 168;refine (KM.out _ ((Calm.refl _).alloc _)).mono ?_;rintro e w5 ⟨⟨A5,n5,c5,r5,rfl⟩,hc5⟩)
          go_ret
          exact⟨ret_int hE3.out.symm,HC1.out.trans ((HO3.out.calm.trans hca).trans ((((Calm.refl _).alloc _).trans hc5).alloc _))⟩
         |false=>
          go_wp2_with (go_at_call 168;refine (KM.out _ ((Calm.refl _).alloc _)).mono ?_;rintro e w5 ⟨⟨A5,n5,c5,r5,rfl⟩,hc5⟩)
          go_roundw
          case rel=>exact⟨k4+1,by omega,by go_num,HC4.out.trans ((((Calm.refl _).alloc _).trans hc5).alloc _),snoc_at HY.out (by simpa using HVM.out) HG4.out⟩
          case measure=>simp[intOf];omega
        ·obtain rfl:k4=L:=by omega
         have HBx:=Lib.hid (enc_new wr ⟨some ⟨bk,ok,none⟩,cr,x.frm⟩ rfl HXf.out.2.1 HXf.out.2.2)
         go_wp2_with (at_builtin;refine wpList_append_p rfl (.tmp 103) (.tmp 106) rfl w1 _ l3 rfl (HO4.out.own.to (HC4.out.trans ((Calm.refl wr).alloc _))) wr.heap.size 1 rfl ⟨some ⟨bk,ok,none⟩,cr,x.frm⟩ HBx.out (by rw[HLL.out];omega) ?_;intro v5 w5 hown5 hg5)
         go_roundw
         case rel=>
          refine⟨k3+1,l3++[⟨some ⟨bk,ok,none⟩,cr,x.frm⟩],by omega,by go_num,by rw[List.length_append,HLL.out];simp;omega,⟨hown5,fun y hy=>?_⟩,?_⟩
          ·rcases List.mem_append.1 hy with hy | hy
           ·exact HO3.out.each y hy
           ·rw[List.mem_singleton] at hy
            subst hy
            exact⟨hfrm.out,HEp.out⟩
          ·show _=_
           have hany:(l3.map (·.p)).any (fun o=>(meetP x.frm o).isSome)=false:=by
            rw[List.any_eq_false]
            intro o ho
            obtain⟨y,hy,rfl⟩:=List.mem_map.1 ho
            simp[all_to HLL.out HG4.out y hy]
           rw[HB3.out,badFrom_yes HX.out HXf.out.1,HST0.out,hany,List.map_append]
           simp
         case measure=>simp[intOf];omega
      |some j=>
       have hj:j < n:=by rw[←hhn.out];exact findI_lt HFi.out
       obtain⟨tj,htj⟩:∃tj,topI ss j=tj:=⟨_,rfl⟩
       have hST2:Hid (sameTree ss i z=(tj == ti)):=by
        show _=_
        rw[hST.out,←htj]
        rfl
       have K1:Hid (Calls Tryz.prog 167 #[.pointer (some ⟨F,0,none⟩),.int .i64 j] w7 fun e w'=>e=.returned (.int .i64 (tj:Nat))∧Calm w7 w'):=by
        have:=KT.out w7 j (HCW.out.trans HC7.out) hj
        rw[htj] at this
        exact this
       have K2:Hid (∀W,Calm w7 W→Calls Tryz.prog 167 #[.pointer (some ⟨F,0,none⟩),.int .i64 i] W fun e w'=>e=.returned (.int .i64 (ti:Nat))∧Calm W w'):=fun W hW=>by
        have:=KT.out W i (HCW.out.trans (HC7.out.trans hW)) hi
        rw[HTi.out] at this
        exact this
       clear htj hST
       simp only[Option.getD_some,Option.isSome_some]
       go_wp2_with fail
       refine K1.out.mono ?_
       rintro e w8 ⟨rfl,hc8⟩
       go_wp2_with fail
       refine (K2.out w8 hc8).mono ?_
       rintro e w9 ⟨rfl,hc9⟩
       have HCx:Hid (Calm wB w9):=HC7.out.trans (hc8.trans hc9)
       clear hc8 hc9
       by_cases htt:tj=ti
       ·have htb:((tj:Int) == (ti:Int))=true:=by rw[htt];exact beq_self_eq_true _
        have hE3:Hid (impErr ss i=85):=by
         show _=_
         rw[hE2.out,HB3.out,badFrom_yes HX.out HXf.out.1,HZ.out,hST2.out]
         simp[htt]
        clear htt
        go_wp2_with fail
        go_ret
        exact⟨ret_int hE3.out.symm,HC1.out.trans (HCW.out.trans HCx.out)⟩
       ·have htb:((tj:Int) == (ti:Int))=false:=by rw[beq_eq_false_iff_ne];omega
        have hSTf:Hid (sameTree ss i z=false):=by
         show _=_
         rw[hST2.out]
         simpa using htt
        clear htt
        have HO4:Hid (Oth w1 w9 (.slice OA L oc) l3):=HO3.out.to (HCB.out.trans HCx.out)
        have HST0:Hid (sameTree ss i (x.frm.parts.getD 0 [])=false):=by rw[HZ.out];exact hSTf
        go_wp2_with fail
        go_loopw [90] (fun q wr=>∃k4:Nat,k4≤L∧q=.int .i64 k4∧Hid (Calm w9 wr)∧Hid (∀j y,j < k4→l3[j]?=some y→meetP x.frm y.p=none)) (fun q _=>L - (intOf q).toNat)
        case atStart=>exact⟨0,Nat.zero_le _,rfl,Calm.refl _,fun j y hj=>absurd hj (Nat.not_lt_zero _)⟩
        case round=>
         obtain⟨k4,hk4,rfl,HC4,HG4⟩:=hrel
         have z3:=(HBX.out.calm (HCx.out.trans HC4.out)).c3
         have z4:=(HBX.out.calm (HCx.out.trans HC4.out)).c4
         simp only at z3
         by_cases hlt4:k4 < L
         ·obtain⟨y,hy⟩:∃y,l3[k4]?=some y:=⟨_,List.getElem?_eq_getElem (by rw[HLL.out];exact hlt4)⟩
          obtain⟨g,rfl,hg,hcl⟩:=HOS.out (by omega)
          have hca:Calm wq wr:=HCB.out.trans (HCx.out.trans HC4.out)
          have y0:=Calm.at_ hca (hcl k4 y hy).1 hg
          have y1:=Calm.at_ hca (hcl k4 y hy).2 hg
          obtain⟨ny,hny⟩:∃ny,y.p.parts.length=ny:=⟨_,rfl⟩
          obtain⟨ry,hry⟩:∃ry,y.p.rest=ry:=⟨_,rfl⟩
          rw[hny] at y0
          rw[hry] at y1
          obtain⟨vm,hvm⟩:∃vm,(meetP x.frm y.p).isSome=vm:=⟨_,rfl⟩
          have hye:=HO3.out.each y (List.mem_of_getElem? hy)
          have KM:Hid (∀W,Calm wr W→Calls Tryz.prog 168 #[.agg #[.slice (some ⟨bk,ok,none⟩) nf cr,.bool rf],.agg #[.slice y.A ny y.c,.bool ry]] W fun e w'=>(∃A2 n2 c2 r2,e=.returned (.tuple #[.agg #[.slice A2 n2 c2,.bool r2],.bool vm]))∧Calm W w'):=fun W hW=>by
           have hcw2:Calm w1 W:=(HO3.out.calm.trans hca).trans hW
           exact meetU_v x.frm y.p _ _ nf ny cr y.c rf ry vm W (hfrm.out.calm hcw2) (hye.1.calm hcw2) HEp.out hye.2 HXf.out.2.1 hny HXf.out.2.2 hry hvm
          have HY:=Lib.hid hy
          have hcA:Calm wr (wr.alloc (.cells #[.slice y.A ny y.c,.bool ry] 65)):=(Calm.refl wr).alloc _
          have z5:=(HBX.out.calm ((HCx.out.trans HC4.out).trans hcA)).c3
          have z6:=(HBX.out.calm ((HCx.out.trans HC4.out).trans hcA)).c4
          simp only at z5
          clear z3 z4 hcA
          have HVM:=Lib.hid hvm
          clear hy hcl hny hry hvm hye
          cases vm with
          |true=>
           have hE3:Hid (impErr ss i=85):=by
            show _=_
            rw[hE2.out,HB3.out,badFrom_yes HX.out HXf.out.1]
            have:(l3.map (·.p)).any (fun o=>(meetP x.frm o).isSome)=true:=List.any_eq_true.2 ⟨y.p,List.mem_map.2 ⟨y,List.mem_of_getElem? HY.out,rfl⟩,HVM.out⟩
            rw[this]
            simp
           go_wp2_with (go_at_call 168;refine (KM.out _ ((Calm.refl _).alloc _)).mono ?_;rintro e w5 ⟨⟨A5,n5,c5,r5,rfl⟩,hc5⟩)
           go_ret
           exact⟨ret_int hE3.out.symm,HC1.out.trans ((HO3.out.calm.trans hca).trans ((((Calm.refl _).alloc _).trans hc5).alloc _))⟩
          |false=>
           go_wp2_with (go_at_call 168;refine (KM.out _ ((Calm.refl _).alloc _)).mono ?_;rintro e w5 ⟨⟨A5,n5,c5,r5,rfl⟩,hc5⟩)
           go_roundw
           case rel=>exact⟨k4+1,by omega,by go_num,HC4.out.trans ((((Calm.refl _).alloc _).trans hc5).alloc _),snoc_at HY.out (by simpa using HVM.out) HG4.out⟩
           case measure=>simp[intOf];omega
         ·obtain rfl:k4=L:=by omega
          have HBx:=Lib.hid (enc_new wr ⟨some ⟨bk,ok,none⟩,cr,x.frm⟩ rfl HXf.out.2.1 HXf.out.2.2)
          go_wp2_with (at_builtin;refine wpList_append_p rfl (.tmp 103) (.tmp 106) rfl w1 _ l3 rfl (HO4.out.own.to (HC4.out.trans ((Calm.refl wr).alloc _))) wr.heap.size 1 rfl ⟨some ⟨bk,ok,none⟩,cr,x.frm⟩ HBx.out (by rw[HLL.out];omega) ?_;intro v5 w5 hown5 hg5)
          go_roundw
          case rel=>
           refine⟨k3+1,l3++[⟨some ⟨bk,ok,none⟩,cr,x.frm⟩],by omega,by go_num,by rw[List.length_append,HLL.out];simp;omega,⟨hown5,fun y hy=>?_⟩,?_⟩
           ·rcases List.mem_append.1 hy with hy | hy
            ·exact HO3.out.each y hy
            ·rw[List.mem_singleton] at hy
             subst hy
             exact⟨hfrm.out,HEp.out⟩
           ·show _=_
            have hany:(l3.map (·.p)).any (fun o=>(meetP x.frm o).isSome)=false:=by
             rw[List.any_eq_false]
             intro o ho
             obtain⟨y,hy,rfl⟩:=List.mem_map.1 ho
             simp[all_to HLL.out HG4.out y hy]
            rw[HB3.out,badFrom_yes HX.out HXf.out.1,HST0.out,hany,List.map_append]
            simp
          case measure=>simp[intOf];omega
     ·have hκb:(κ != 3)=true:=by simpa using hκ
      have HK:=Lib.hid hκ
      clear hκ
      go_wp2_with fail
      go_roundw
      case rel=>
       refine⟨k3+1,l3,by omega,by go_num,by rw[HLL.out];omega,HO3.out.to ((Calm.refl wq).alloc _),?_⟩
       show _=_
       rw[HB3.out,badFrom_no HX.out (by rw[HXf.out.1];exact HK.out)]
      case measure=>simp[intOf];omega
    ·obtain rfl:k3=np:=by omega
     have hE3:Hid (impErr ss i=0):=by
      show _=_
      rw[hE2.out,HB3.out,List.drop_of_length_le (by rw[HNp.out];exact Nat.le_refl _)]
      rfl
     go_wp2_with fail
     go_ret
     exact⟨ret_int hE3.out.symm,HC1.out.trans HO3.out.calm⟩
theorem run_store_fn {P:Program} {w:World} {a:Addr} {f:Fn} {x y:Array Value} {m:Mode}:(store a (.func f x y) m).run P w=stored P w a (.func f x y) m:=run_store P w a _ m rfl
attribute [go_sem] run_store_fn
def fnOf (k:Nat):Nat:=[125,126,127,128,129].getD k 0
def stepOf (ss:List Strm) (k i:Nat):Int:=((stepsOf ss).getD k (fun _=>0)) i
theorem steps_c (w:World):Calls Tryz.prog 90 #[] w fun e w'=>(∃g,e=.returned (.slice (some ⟨g,0,none⟩) 5 5)∧g < w'.heap.size∧∀k,k < 5→w'.cell? ⟨g,k,none⟩=some (.func (.func (fnOf k)) #[] #[]))∧Calm w w':=by
 go_enter Tryz.func90,Tryz.ntmps90
 go_wp2
 go_ret
 refine⟨⟨w.heap.size,rfl,by simp,fun k hk=>?_⟩,(Calm.refl w).alloc _⟩
 match k,hk with
 |0,_=>simp[go_sem,fnOf]
 |1,_=>simp[go_sem,fnOf]
 |2,_=>simp[go_sem,fnOf]
 |3,_=>simp[go_sem,fnOf]
 |4,_=>simp[go_sem,fnOf]
theorem step_c (ss:List Strm) (F:Nat) (A:Option Addr) (n c i k:Nat) (w:World) (hf:ForestAt w F A n c ss) (hi:i < n) (hn:n≤1000) (hk:k < 5) (hp:∀j,j < k→∀i,i < n→stepOf ss j i=0) :
  Calls Tryz.prog (fnOf k) #[.pointer (some ⟨F,0,none⟩),.int .i64 i] w fun e w'=>e=.returned (.int .i64 (stepOf ss k i))∧Calm w w':=by
 match k,hk with
 |0,_=>exact itself_c ss F A n c i w hf hi
 |1,_=>exact parmiss_c ss F A n c i w hf hi
 |2,_=>exact cycle_c ss F A n c i w hf hi
 |3,_=>exact deep_c ss F A n c i w hf hi
 |4,_=>exact badimp_c ss F A n c i w hf hi hn (fun j hj=>by
   have h0:ownErr ss j=0:=hp 0 (by omega) j hj
   obtain⟨_,_,_,_,h1,h2⟩:=ownErr_zero h0
   exact⟨by simpa using h1,h2⟩)
theorem fn_enter {k:Nat} (hk:k < 5) (args:Array Value) (w:World):(callFunc (fnOf k) args).run Tryz.prog w=.ok (.enter (fnOf k) args) w:=by
 match k,hk with
 |0,_=>exact enters_of Tryz.func125 (by kernel_rfl) rfl args w
 |1,_=>exact enters_of Tryz.func126 (by kernel_rfl) rfl args w
 |2,_=>exact enters_of Tryz.func127 (by kernel_rfl) rfl args w
 |3,_=>exact enters_of Tryz.func128 (by kernel_rfl) rfl args w
 |4,_=>exact enters_of Tryz.func129 (by kernel_rfl) rfl args w
theorem strErr_hit {ss:List Strm} {n k i:Nat} (hn:ss.length=n) (h16:n≤16) (hk:k < 5) (hp:∀j,j < k→∀i,i < n→stepOf ss j i=0) (hi:i < n) (h:stepOf ss k i≠0) (hq:∀j,j < i→stepOf ss k j=0):strErr ss=(i,stepOf ss k i):=by
 unfold strErr
 rw[hn,if_neg (by omega)]
 match k,hk with
 |0,_=>exact runSteps_hit (a:=[]) (by simp) hi h hq
 |1,_=>
  refine runSteps_hit (a:=[ownErr ss]) ?_ hi h hq
  intro g hg
  simp only[List.mem_singleton] at hg
  subst hg
  exact hp 0 (by omega)
 |2,_=>
  refine runSteps_hit (a:=[ownErr ss,parErr ss]) ?_ hi h hq
  intro g hg
  simp only[List.mem_cons,List.not_mem_nil,or_false] at hg
  rcases hg with rfl | rfl
  ·exact hp 0 (by omega)
  ·exact hp 1 (by omega)
 |3,_=>
  refine runSteps_hit (a:=[ownErr ss,parErr ss,cycErr ss]) ?_ hi h hq
  intro g hg
  simp only[List.mem_cons,List.not_mem_nil,or_false] at hg
  rcases hg with rfl | rfl | rfl
  ·exact hp 0 (by omega)
  ·exact hp 1 (by omega)
  ·exact hp 2 (by omega)
 |4,_=>
  refine runSteps_hit (a:=[ownErr ss,parErr ss,cycErr ss,deepErr ss]) ?_ hi h hq
  intro g hg
  simp only[List.mem_cons,List.not_mem_nil,or_false] at hg
  rcases hg with rfl | rfl | rfl | rfl
  ·exact hp 0 (by omega)
  ·exact hp 1 (by omega)
  ·exact hp 2 (by omega)
  ·exact hp 3 (by omega)
theorem runSteps_end {n:Nat}:∀{fs:List (Nat→Int)},(∀f∈fs,∀i,i < n→f i=0)→runSteps n fs=(0,0)
 |[],_=>rfl
 |f :: r,h=>by
  unfold runSteps
  rw[find_none_ (h f (by simp))]
  exact runSteps_end (fun g hg=>h g (by simp[hg]))
theorem strErr_end {ss:List Strm} {n:Nat} (hn:ss.length=n) (h16:n≤16) (hp:∀j,j < 5→∀i,i < n→stepOf ss j i=0):strErr ss=(0,0):=by
 unfold strErr
 rw[hn,if_neg (by omega)]
 refine runSteps_end ?_
 intro g hg
 simp only[stepsOf,List.mem_cons,List.not_mem_nil,or_false] at hg
 rcases hg with rfl | rfl | rfl | rfl | rfl
 ·exact hp 0 (by omega)
 ·exact hp 1 (by omega)
 ·exact hp 2 (by omega)
 ·exact hp 3 (by omega)
 ·exact hp 4 (by omega)
theorem strErr_big {ss:List Strm} {n:Nat} (hn:ss.length=n) (h16:16 < n):strErr ss=(0,80):=by
 unfold strErr
 rw[hn,if_pos h16]
set_option maxRecDepth 100000 in
set_option maxHeartbeats 4000000 in
theorem strcheck_c (ss:List Strm) (A:Option Addr) (n c:Nat) (w:World) (hs:StrmsU w A ss) (hn:ss.length=n) :
  Calls Tryz.prog 62 #[.slice A n c] w fun e w'=>e=.returned (.tuple #[.int .i64 ((strErr ss).1:Nat),.int .i64 (strErr ss).2])∧Calm w w':=by
 have hlen:=hs.len
 rw[hn] at hlen
 have HN:=Lib.hid hn
 have hk:=forest_c ss A n c w hs hn
 clear hs hn
 go_enter Tryz.func62,Tryz.ntmps62
 by_cases h16:16 < n
 ·go_wp2
  go_ret2
  exact⟨by rw[strErr_big HN.out h16];rfl,Calm.refl _⟩
 ·have h16i:decide ((16:Int) < (n:Int))=false:=by simp;omega
  go_wp2_with fail
  refine hk.mono ?_
  rintro e w1 ⟨⟨F,rfl,hf⟩,hc1⟩
  go_wp2_with fail
  refine (steps_c w1).mono ?_
  rintro e w2 ⟨⟨g,rfl,hg,hcells⟩,hc2⟩
  have HF:=Lib.hid (hf.calm hc2)
  have HC:=Lib.hid (hc1.trans hc2)
  have HG:=Lib.hid hcells
  clear hf hc1 hc2 hcells hk
  go_wp2_with fail
  go_loopw [16] (fun q wr=>∃k:Nat,k≤5∧q=.int .i64 k∧Hid (∀j,j < k→∀i,i < n→stepOf ss j i=0)∧Hid (Calm w2 wr)) (fun q _=>5 - (intOf q).toNat)
  case atStart=>exact⟨0,Nat.zero_le _,rfl,fun j hj=>absurd hj (Nat.not_lt_zero _),Calm.refl _⟩
  case round=>
   obtain⟨k,hk,rfl,HP,HCr⟩:=hrel
   obtain⟨wq,rfl⟩:∃wq,wq=wr:=⟨_,rfl⟩
   by_cases hlt:k < 5
   ·have c0:=Calm.at_ HCr.out (HG.out k hlt) hg
    obtain⟨fk,hfk⟩:∃fk,fnOf k=fk:=⟨_,rfl⟩
    have KS:Hid (∀(W:World) (i:Nat),Calm w2 W→i < n→Calls Tryz.prog fk #[.pointer (some ⟨F,0,none⟩),.int .i64 i] W fun e w'=>e=.returned (.int .i64 (stepOf ss k i))∧Calm W w'):=fun W i hW hi=>by
     rw[←hfk]
     exact step_c ss F A n c i k W (HF.out.calm hW) hi (by omega) hlt HP.out
    have eg:∀args w,(callFunc fk args).run Tryz.prog w=.ok (.enter fk args) w:=by
     rw[←hfk]
     exact fn_enter hlt
    rw[hfk] at c0
    obtain⟨wB,hwB⟩:∃wB,wB=wq.alloc (.cells #[.func (.func fk) #[] #[]] 171):=⟨_,rfl⟩
    have hcB:Calm wq wB:=by rw[hwB];exact (Calm.refl _).alloc _
    have b0:wB.cell? ⟨wq.heap.size,0,none⟩=some (.func (.func fk) #[] #[]):=by rw[hwB];simp[go_sem]
    have hzB:wq.heap.size < wB.heap.size:=by rw[hwB];simp
    have HWB:=Lib.hid hwB
    have HB0:=Lib.hid b0
    have HCB:=Lib.hid hcB
    clear hfk hwB b0 hcB
    have hk5:decide ((k:Int) < 5)=true:=by simp;omega
    go_wp2_with fail
    rw[←HWB.out]
    go_loopw [22] (fun q wr=>∃i:Nat,i≤n∧q=.int .i64 i∧Hid (∀j,j < i→stepOf ss k j=0)∧Hid (Calm wB wr)) (fun q _=>n - (intOf q).toNat)
    case atStart=>exact⟨0,Nat.zero_le _,rfl,fun j hj=>absurd hj (Nat.not_lt_zero _),Calm.refl _⟩
    case round=>
     obtain⟨i,hi,rfl,HQ,HCi⟩:=hrel
     have b0:=Calm.at_ HCi.out HB0.out hzB
     by_cases hlti:i < n
     ·obtain⟨x,hx⟩:∃x,stepOf ss k i=x:=⟨_,rfl⟩
      have K1:Hid (Calls Tryz.prog fk #[.pointer (some ⟨F,0,none⟩),.int .i64 i] wr fun e w'=>e=.returned (.int .i64 x)∧Calm wr w'):=by
       have:=KS.out wr i (HCr.out.trans (HCB.out.trans HCi.out)) hlti
       rw[hx] at this
       exact this
      have HX:=Lib.hid hx
      clear hx
      by_cases hx0:x=0
      ·subst hx0
       go_wp2_with (go_at_fn fk;refine K1.out.mono ?_;rintro e w5 ⟨rfl,hc5⟩)
       go_roundw
       case rel=>
        refine⟨i+1,by omega,by go_num,fun j hj=>?_,HCi.out.trans hc5⟩
        by_cases e:j=i
        ·subst e
         exact HX.out
        ·exact HQ.out j (by omega)
       case measure=>simp[intOf];omega
      ·have hxb:(x != 0)=true:=by simpa using hx0
       have hE:Hid (strErr ss=(i,x)):=by
        show _=_
        rw[←HX.out]
        exact strErr_hit HN.out (by omega) hlt HP.out hlti (by rw[HX.out];exact hx0) HQ.out
       clear hx0
       go_wp2_with (go_at_fn fk;refine K1.out.mono ?_;rintro e w5 ⟨rfl,hc5⟩)
       go_ret2
       exact⟨by rw[hE.out];rfl,HC.out.trans (HCr.out.trans (HCB.out.trans (HCi.out.trans hc5)))⟩
     ·obtain rfl:i=n:=by omega
      go_wp2_with fail
      go_roundw
      case rel=>
       refine⟨k+1,by omega,by go_num,fun j hj=>?_,HCr.out.trans (HCB.out.trans HCi.out)⟩
       by_cases e:j=k
       ·subst e
        exact HQ.out
       ·exact HP.out j (by omega)
      case measure=>simp[intOf];omega
   ·obtain rfl:k=5:=by omega
    go_wp2_with fail
    go_ret2
    exact⟨by rw[strErr_end HN.out (by omega) HP.out];rfl,HC.out.trans HCr.out⟩
end Go.Proofs.YtcofdlipapnohaaGreatDoor
