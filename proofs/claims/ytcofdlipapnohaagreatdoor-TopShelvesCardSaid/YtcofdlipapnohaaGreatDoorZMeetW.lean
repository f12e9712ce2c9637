/- Walks: the meet of two patterns (written by program: gen_meetw.py). -/
import Derived.Test.YtcofdlipapnohaaGreatDoorZCheckG
import Derived.Test.YtcofdlipapnohaaGreatDoorZNewS
import Derived.Test.YtcofdlipapnohaaGreatDoorZMeetL
set_option linter.unusedVariables false
set_option linter.unusedSimpArgs false
namespace Go.Proofs.YtcofdlipapnohaaGreatDoor
open Go Go.RowKit Sy
structure PatA (w:World) (A:Option Addr) (c:Nat) (p:Pat):Prop where
 r:StrsR w A p.parts
 room:p.parts.length≤c
 cap:c≤9223372036854775807
theorem PatA.calm {w w':World} {A:Option Addr} {c:Nat} {p:Pat} (h:PatA w A c p) (hc:Calm w w'):PatA w' A c p:=⟨h.r.calm hc,h.room,h.cap⟩
theorem checkA_c (p:Pat) (n c:Nat) (re:Bool) (A:Option Addr) (w:World) (hr:PatA w A c p) (hp:patErr p=0) (hn:p.parts.length=n) (hre:p.rest=re):Calls Tryz.prog 197 #[.agg #[.slice A n c,.bool re]] w fun e w'=>e=.returned (.int .i64 0)∧Calm w w':=by
 have:=pcheckG_c p A c w hr.r.toG hr.room hr.cap
 rw[hp,hn,hre] at this
 exact this
set_option maxHeartbeats 400000 in
theorem compat_c (n m:Nat) (r1 r2 v:Bool) (w:World) (hn:n≤16384) (hm:m≤16384) (hv:(if r1 then (if r2 then true else decide (n < m)) else (if r2 then decide (m < n) else n == m))=v) :
  Calls Tryz.prog 199 #[.int .i64 n,.bool r1,.int .i64 m,.bool r2] w fun e w'=>e=.returned (.bool v)∧w=w':=by
 subst hv
 cases r1 <;> cases r2
 ·by_cases h:n=m
  ·subst h
   go_enter Tryz.func199,Tryz.ntmps199
   go_wp2
   go_ret
   exact⟨ret_bool (by simp),rfl⟩
  ·have hb:((n:Int) == (m:Int))=false:=by simp;omega
   have H:=Lib.hid h
   clear h
   go_enter Tryz.func199,Tryz.ntmps199
   go_wp2
   go_ret
   exact⟨ret_bool (by simp[H.out]),rfl⟩
 ·by_cases h:m < n
  all_goals
   go_enter Tryz.func199,Tryz.ntmps199
   go_wp2
   go_ret
   exact⟨ret_bool (by simp[h];try omega),rfl⟩
 ·by_cases h:n < m
  all_goals
   go_enter Tryz.func199,Tryz.ntmps199
   go_wp2
   go_ret
   exact⟨ret_bool (by simp[h];try omega),rfl⟩
 ·go_enter Tryz.func199,Tryz.ntmps199
  go_wp2
  go_ret
  exact⟨rfl,rfl⟩
theorem within_v (a b:Str) (v:Bool) (w:World) (ha:a.length≤16384) (hb:b.length≤16384) (hv:inside a b=v):Calls Tryz.prog 233 #[.string (bs a),.string (bs b)] w fun e w'=>e=.returned (.bool v)∧Calm w w':=hv ▸ pwith_c a b w ha hb
set_option maxHeartbeats 400000 in
theorem mtpart_c (x y:Str) (v:Bool) (w:World) (hx:x.length≤16384) (hy:y.length≤16384) (hv:canMeet x y=v) :
  Calls Tryz.prog 200 #[.string (bs x),.string (bs y)] w fun e w'=>e=.returned (.tuple #[.string (bs (mPartE x y)),.bool v])∧Calm w w':=by
 subst hv
 rcases h1:inside x y with _ | _
 ·have k1:=fun W=>within_v x y false W hx hy h1
  rcases h2:inside y x with _ | _
  ·have k2:=fun W=>within_v y x false W hy hx h2
   have hE:Hid (Value.tuple #[.string (bs (mPartE x y)),.bool (canMeet x y)]=.tuple #[.string ⟨#[]⟩,.bool false]):=by
    show _=_
    rw[mPartE,canMeet,h1,h2]
    rfl
   clear h1 h2
   go_enter Tryz.func200,Tryz.ntmps200
   go_wp2_with fail
   refine (k1 _).mono ?_
   rintro e w2 ⟨rfl,hc2⟩
   go_wp2_with fail
   refine (k2 _).mono ?_
   rintro e w3 ⟨rfl,hc3⟩
   go_wp2
   go_ret2
   exact⟨by rw[hE.out];rfl,hc2.trans hc3⟩
  ·have k2:=fun W=>within_v y x true W hy hx h2
   have hE:Hid (Value.tuple #[.string (bs (mPartE x y)),.bool (canMeet x y)]=.tuple #[.string (bs y),.bool true]):=by
    show _=_
    rw[mPartE,canMeet,mPart,h1,h2]
    rfl
   clear h1 h2
   go_enter Tryz.func200,Tryz.ntmps200
   go_wp2_with fail
   refine (k1 _).mono ?_
   rintro e w2 ⟨rfl,hc2⟩
   go_wp2_with fail
   refine (k2 _).mono ?_
   rintro e w3 ⟨rfl,hc3⟩
   go_wp2
   go_ret2
   exact⟨by rw[hE.out];rfl,hc2.trans hc3⟩
 ·have k1:=fun W=>within_v x y true W hx hy h1
  have hE:Hid (Value.tuple #[.string (bs (mPartE x y)),.bool (canMeet x y)]=.tuple #[.string (bs x),.bool true]):=by
   show _=_
   rw[mPartE,canMeet,mPart,h1]
   rfl
  clear h1
  go_enter Tryz.func200,Tryz.ntmps200
  go_wp2_with fail
  refine (k1 _).mono ?_
  rintro e w2 ⟨rfl,hc2⟩
  go_wp2
  go_ret2
  exact⟨by rw[hE.out];rfl,hc2⟩
structure Box3 (w1:World) (B:Nat) (AX:Option Addr) (nx cx:Nat) (rx:Bool) (AY:Option Addr) (ny cy:Nat) (ry:Bool):Prop where
 size:B+3≤w1.heap.size
 x0:w1.cell? ⟨B,0,none⟩=some (.slice AX nx cx)
 x1:w1.cell? ⟨B,1,none⟩=some (.bool rx)
 y0:w1.cell? ⟨B+1,0,none⟩=some (.slice AY ny cy)
 y1:w1.cell? ⟨B+1,1,none⟩=some (.bool ry)
 z0:w1.cell? ⟨B+2,0,none⟩=some (.slice none 0 0)
 z1:w1.cell? ⟨B+2,1,none⟩=some (.bool false)
 fx:∀o,w1.frozen? ⟨B,o,none⟩=false
 fy:∀o,w1.frozen? ⟨B+1,o,none⟩=false
 fz:∀o,w1.frozen? ⟨B+2,o,none⟩=false
theorem Box3.low {w1 w2:World} {B:Nat} {AX:Option Addr} {nx cx:Nat} {rx:Bool} {AY:Option Addr} {ny cy:Nat} {ry:Bool} (h:Box3 w1 B AX nx cx rx AY ny cy ry) (hc:Below (B+3) w1 w2):Box3 w2 B AX nx cx rx AY ny cy ry:=
 have c:∀(b o:Nat),b < B+3→w2.cell? ⟨b,o,none⟩=w1.cell? ⟨b,o,none⟩:=fun b o hb=>hc.cell (p:=⟨b,o,none⟩) hb
 have f:∀(b o:Nat),b < B+3→w2.frozen? ⟨b,o,none⟩=w1.frozen? ⟨b,o,none⟩:=fun b o hb=>hc.frozen (p:=⟨b,o,none⟩) hb
 ⟨Nat.le_trans h.size hc.size,(c B 0 (by omega)).trans h.x0,(c B 1 (by omega)).trans h.x1,(c (B+1) 0 (by omega)).trans h.y0,(c (B+1) 1 (by omega)).trans h.y1,(c (B+2) 0 (by omega)).trans h.z0,(c (B+2) 1 (by omega)).trans h.z1,
  fun o=>(f B o (by omega)).trans (h.fx o),fun o=>(f (B+1) o (by omega)).trans (h.fy o),fun o=>(f (B+2) o (by omega)).trans (h.fz o)⟩
theorem Box3.calm {w1 w2:World} {B:Nat} {AX:Option Addr} {nx cx:Nat} {rx:Bool} {AY:Option Addr} {ny cy:Nat} {ry:Bool} (h:Box3 w1 B AX nx cx rx AY ny cy ry) (hc:Calm w1 w2):Box3 w2 B AX nx cx rx AY ny cy ry:=h.low (hc.mono h.size)
theorem Box3.swap {w1:World} {B:Nat} {AX:Option Addr} {nx cx:Nat} {rx:Bool} {AY:Option Addr} {ny cy:Nat} {ry:Bool} (h:Box3 w1 B AX nx cx rx AY ny cy ry) :
  Box3 ((((w1.setCell ⟨B,0,none⟩ (.slice AY ny cy)).setCell ⟨B,1,none⟩ (.bool ry)).setCell ⟨B+1,0,none⟩ (.slice AX nx cx)).setCell ⟨B+1,1,none⟩ (.bool rx)) B AY ny cy ry AX nx cx rx:=by
 have x0:=h.x0
 have x1:=h.x1
 have y0:=h.y0
 have y1:=h.y1
 have z0:=h.z0
 have z1:=h.z1
 refine⟨by simpa using h.size,?_,?_,?_,?_,?_,?_,fun o=>?_,fun o=>?_,fun o=>?_⟩
 ·simp[go_sem,x0,x1,y0,y1]
 ·simp[go_sem,x0,x1,y0,y1]
 ·simp[go_sem,x0,x1,y0,y1]
 ·simp[go_sem,x0,x1,y0,y1]
 ·simp[go_sem,x0,x1,y0,y1,z0]
 ·simp[go_sem,x0,x1,y0,y1,z1]
 ·simp[go_sem,h.fx o]
 ·simp[go_sem,h.fy o]
 ·simp[go_sem,h.fz o]
theorem NewS.put {w:World} {B g o c:Nat} {ls:List Str} (h:NewS w B (some ⟨g,o,none⟩) c ls) {k:Nat} {z:Str} (hk:k < ls.length) (hz:z.length≤1048576):NewS (w.setCell ⟨g,o+k,none⟩ (.string (bs z))) B (some ⟨g,o,none⟩) c (ls.set k z):=by
 obtain⟨b,o',hA,hb,hkk⟩:=h.u.at_ (by omega)
 obtain⟨rfl,rfl⟩:g=b∧o=o':=by simpa using hA
 refine⟨⟨by rw[List.length_set];exact h.u.len,fun l hl=>?_,fun _=>⟨g,o,rfl,by simpa using hb,fun j l hl=>?_⟩⟩,by rw[List.length_set];exact h.room,h.cap,h.new,fun ad hA=>?_⟩
 ·rcases List.mem_or_eq_of_mem_set hl with h1 | h1
  ·exact h.u.each l h1
  ·rw[h1];exact hz
 ·by_cases e:k=j
  ·subst e
   rw[List.getElem?_set_self hk] at hl
   cases hl
   exact World.cell?_setCell_same' _ _ _ (by rw[hkk k _ (List.getElem?_eq_getElem hk)];rfl)
  ·rw[List.getElem?_set_ne e] at hl
   exact (World.cell?_setCell_other _ _ _ _ (fun h=>e (by have:=congrArg Addr.off h;simp at this;omega))).trans (hkk j l hl)
 ·obtain rfl:=Option.some.inj hA
  obtain⟨cs,hh⟩:=h.row _ rfl
  refine⟨_,show (w.setCell ⟨g,o+k,none⟩ (.string (bs z))).heap[g]?=some (.cells (cs.setIfInBounds (o+k) (.string (bs z))) 9 (0,0)) from ?_⟩
  have hh':w.heap[g]?=some (.cells cs 9 (0,0)):=hh
  simp[World.setCell,Array.getElem?_modify,hh']
theorem NewS.free {w:World} {B g o c:Nat} {ls:List Str} (h:NewS w B (some ⟨g,o,none⟩) c ls) (j:Nat):w.frozen? ⟨g,j,none⟩=false:=by
 obtain⟨cs,hh⟩:=h.row _ rfl
 exact frozen_of_row w g j cs _ hh
theorem NewS.get {w:World} {B c:Nat} {A:Option Addr} {ls:List Str} (h:NewS w B A c ls) {k:Nat} (hk:k < ls.length):∃g o l,A=some ⟨g,o,none⟩∧B≤g∧ls[k]?=some l∧l.length≤1048576∧w.cell? ⟨g,o+k,none⟩=some (.string (bs l)):=by
 obtain⟨b,o,l,hA,_,h2,h3,h4⟩:=h.u.get hk
 exact⟨b,o,l,hA,h.new _ hA,h2,h3,h4⟩
def MeetEnd (p q:Pat) (B:Nat) (e:Ending) (w':World):Prop:=
 (∃m A c,meetL p q=some m∧e=.returned (.tuple #[.agg #[.slice A m.parts.length c,.bool m.rest],.bool true])∧NewS w' B A c m.parts) ∨
 (meetL p q=none∧e=.returned (.tuple #[.agg #[.slice none 0 0,.bool false],.bool false]))
theorem results_cell_slot {fn:Func} {p q:Tmp} {ty:TypeId} (h:fn.results=#[.cell p ty,.tmp q]) (tmps:Array Value) (P:Program) (w:World) :
  (results fn tmps).run P w=((asAddr (tmps.getD p undef)).run P w).andThen fun a w₁=>((loadVar ty a).run P w₁).andThen fun v w₂=>.ok (.tuple #[v,tmps.getD q undef]) w₂:=by
 simp only[results,h]
 simp[Sem.run_bind,Result.andThen]
set_option maxHeartbeats 8000000 in
theorem meet_long (p q:Pat) (A A':Option Addr) (c c':Nat) (w:World) (hp:PatA w A c p) (hq:PatA w A' c' q) (ep:patErr p=0) (eq:patErr q=0) (hl:q.parts.length≤p.parts.length) (hcm:compat p q=true) :
  Calls Tryz.prog 168 #[.agg #[.slice A p.parts.length c,.bool p.rest],.agg #[.slice A' q.parts.length c',.bool q.rest]] w fun e w'=>MeetEnd p q w.heap.size e w'∧Calm w w':=by
 obtain⟨n,hn⟩:∃n,p.parts.length=n:=⟨_,rfl⟩
 obtain⟨m,hm⟩:∃m,q.parts.length=m:=⟨_,rfl⟩
 obtain⟨re,hre⟩:∃re,p.rest=re:=⟨_,rfl⟩
 obtain⟨rf,hrf⟩:∃rf,q.rest=rf:=⟨_,rfl⟩
 have hnl:=hp.r.len
 have hml:=hq.r.len
 obtain⟨w1,hw1⟩:∃w1,w1=((w.alloc (.cells #[.slice A n c,.bool re] 65)).alloc (.cells #[.slice A' m c',.bool rf] 65)).alloc (.cells #[.slice none 0 0,.bool false] 65):=⟨_,rfl⟩
 have hc1:Calm w w1:=by rw[hw1];exact (((Calm.refl w).alloc _).alloc _).alloc _
 have hbox:Box3 w1 w.heap.size A n c re A' m c' rf:=by
  rw[hw1]
  exact⟨by simp,by simp[go_sem],by simp[go_sem],by simp[go_sem],by simp[go_sem],by simp[go_sem],by simp[go_sem],fun o=>by simp[go_sem],fun o=>by simp[go_sem],fun o=>by simp[go_sem]⟩
 have KP:Hid (∀W,Calm w1 W→Calls Tryz.prog 197 #[.agg #[.slice A n c,.bool re]] W fun e w'=>e=.returned (.int .i64 0)∧Calm W w'):=fun W hW=>checkA_c p n c re A W ((hp.calm hc1).calm hW) ep hn hre
 have KQ:Hid (∀W,Calm w1 W→Calls Tryz.prog 197 #[.agg #[.slice A' m c',.bool rf]] W fun e w'=>e=.returned (.int .i64 0)∧Calm W w'):=fun W hW=>checkA_c q m c' rf A' W ((hq.calm hc1).calm hW) eq hm hrf
 have KM:Hid (∀W,Calls Tryz.prog 199 #[.int .i64 n,.bool re,.int .i64 m,.bool rf] W fun e w'=>e=.returned (.bool true)∧W=w'):=fun W=>compat_c n m re rf true W (by omega) (by omega) (by rw[←hn,←hm,←hre,←hrf];exact hcm)
 have KC:Hid (∀W,Calm w W→Calls Tryz.prog 118 #[.slice A n c] W fun e w'=>(∃A2 c2,e=.returned (.slice A2 n c2)∧NewS w' W.heap.size A2 c2 p.parts)∧Calm W w'):=fun W hW=>by
  have:=clone_c p.parts A c W (hp.calm hW).r.toU
  unfold CloneEnd at this
  rw[hn] at this
  exact this
 have HLe:=Lib.hid hl
 rw[hn,hm] at hl
 rw[hn,hm,hre,hrf]
 rw[hn] at hnl
 rw[hm] at hml
 have HW:=Lib.hid hw1
 have HC:=Lib.hid hc1
 have HB:=Lib.hid hbox
 have HN:=Lib.hid (And.intro hn (And.intro hm (And.intro hre hrf)))
 have HP:=Lib.hid hp
 have HQ:=Lib.hid hq
 have HEp:=Lib.hid ep
 have HEq:=Lib.hid eq
 have HCm:=Lib.hid hcm
 clear hw1 hc1 hbox hn hm hre hrf hp hq ep eq hcm
 go_enter Tryz.func168,Tryz.ntmps168
 go_wp2_with fail
 rw[←HW.out]
 refine (KP.out w1 (Calm.refl _)).mono ?_
 rintro e w2 ⟨rfl,hc2⟩
 have b2:=HB.out.calm hc2
 have y0:=b2.y0
 have y1:=b2.y1
 clear b2
 go_wp2_with fail
 refine (KQ.out w2 hc2).mono ?_
 rintro e w3 ⟨rfl,hc3⟩
 have HB3:=Lib.hid (HB.out.calm (hc2.trans hc3))
 have x0:=HB3.out.x0
 have x1:=HB3.out.x1
 have y0:=HB3.out.y0
 have y1:=HB3.out.y1
 go_wp2_with fail
 refine (KM.out w3).mono ?_
 rintro e w4 ⟨rfl,rfl⟩
 go_wp2_with fail
 obtain⟨w5,hw5⟩:∃w5,w5=w3:=⟨_,rfl⟩
 rw[←hw5]
 have HB5:Hid (Box3 w5 w.heap.size A n c re A' m c' rf):=by rw[hw5];exact HB3.out
 have HC5:Hid (Calm w w5):=by rw[hw5];exact HC.out.trans (hc2.trans hc3)
 clear hw5 x0 x1 y0 y1 hc2 hc3
 refine (KC.out w5 HC5.out).mono ?_
 rintro e w6 ⟨⟨A2,c2,rfl,hn6⟩,hc6⟩
 have HC6:=Lib.hid (HC5.out.trans hc6)
 have HB6:=Lib.hid (HB5.out.calm hc6)
 have HN6:=Lib.hid (hn6.mono HB5.out.size)
 have y0:=HB6.out.y0
 clear hc6 hn6 KP KQ KM KC
 go_wp2_with fail
 go_loopw [48] (fun u wr=>∃k:Nat,k≤m∧u=.int .i64 k∧Hid (NewS wr (w.heap.size+3) A2 c2 (mixL p q k))∧Hid (Below (w.heap.size+3) w6 wr)∧Hid (∀j,j < k→canMeet (pAt p j) (pAt q j)=true)) (fun u _=>m - (intOf u).toNat)
 case atStart=>exact⟨0,Nat.zero_le _,rfl,by rw[mixL_zero];exact HN6.out,Below.refl _ _,fun j hj=>absurd hj (Nat.not_lt_zero _)⟩
 case round=>
  obtain⟨k,hk,rfl,HNk,HBk,HCk⟩:=hrel
  have HBx:=Lib.hid (HB6.out.low HBk.out)
  have HCr:Hid (Calm w wr):=Below.trans HC6.out (HBk.out.mono (by omega))
  by_cases hlt:k < m
  ·obtain⟨b,o,y,rfl,hb,hy,hyl,hcy⟩:=(HQ.out.calm HCr.out).r.get (k:=k) (by rw[HN.out.2.1];exact hlt)
   obtain⟨g,o2,x,rfl,hBg,hx,hxl,hcx⟩:=HNk.out.get (k:=k) (by rw[mixL_len,HN.out.1];omega)
   have hkx:k < p.parts.length:=by rw[HN.out.1];omega
   have hxe:x=pAt p k:=by
    rw[mixL_get hkx] at hx
    simpa using hx.symm
   have hye:y=pAt q k:=by
    rw[pAt_get (by rw[HN.out.2.1];exact hlt)] at hy
    exact (Option.some.inj hy).symm
   have hxl2:x.length≤16384:=by
    rw[hxe]
    exact HP.out.r.each _ (List.mem_of_getElem? (pAt_get hkx))
   have hfr:=HNk.out.free k
   have hfr2:=HNk.out.free (o2+k)
   have hknx:k < n:=by omega
   obtain⟨v,hv⟩:∃v,canMeet x y=v:=⟨_,rfl⟩
   have hmp:=mtpart_c x y v wr hxl2 hyl hv
   have hgb:g < wr.heap.size:=by
    obtain⟨cs,hh⟩:=HNk.out.row _ rfl
    exact heap_lt hh
   have HKx:=Lib.hid hkx
   have HXe:=Lib.hid (And.intro hxe hye)
   have HV:=Lib.hid hv
   have HGb:=Lib.hid hgb
   clear hx hy hxe hye hv hxl2 hkx hgb
   cases v with
   |false=>
    have hME:mPartE x y=[]:=by rw[mPartE,HV.out];rfl
    rw[hME] at hmp
    clear hME hfr hfr2
    go_wp2_with fail
    refine hmp.mono ?_
    rintro e w7 ⟨rfl,hc7⟩
    have b7:=HBx.out.calm hc7
    have z0:=b7.z0
    have z1:=b7.z1
    have f0:=b7.fz 0
    have f1:=b7.fz 1
    clear b7
    have hE:Hid (meetL p q=none):=by
     show meetL p q=none
     have h2:=HV.out
     rw[HXe.out.1,HXe.out.2] at h2
     have:=meetL_bad h2
     exact this
    have hc8:Calm w ((w7.setCell ⟨w.heap.size+2,0,none⟩ (.slice none 0 0)).setCell ⟨w.heap.size+2,1,none⟩ (.bool false)):=Below.setCell (Below.setCell (HCr.out.trans hc7) (by show w.heap.size≤w.heap.size+2;omega) _) (by show w.heap.size≤w.heap.size+2;omega) _
    clear hc7
    go_wp2
    refine bodyPost_ret (v:=.tuple #[.agg #[.slice none 0 0,.bool false],.bool false]) ?_ rfl ⟨.inr ⟨hE.out,rfl⟩,hc8⟩
    rw[results_cell_slot rfl]
    go_simp
   |true=>
    have hME:mPartE x y=mPart x y:=by rw[mPartE,HV.out];rfl
    rw[hME] at hmp
    have hzl:Hid ((mPart x y).length≤1048576):=by
     show (mPart x y).length≤1048576
     rcases mPart_or x y with e | e <;> rw[e] <;> omega
    clear hME
    go_wp2_with fail
    refine hmp.mono ?_
    rintro e w7 ⟨rfl,hc7⟩
    have hcx7:=(hc7.cell (p:=⟨g,o2+k,none⟩) HGb.out).trans hcx
    have hfr7:=(hc7.frozen (p:=⟨g,o2+k,none⟩) HGb.out).trans hfr2
    have HN7:=Lib.hid ((HNk.out.calm hc7).put (k:=k) (z:=mPart x y) (by rw[mixL_len,HN.out.1];omega) hzl.out)
    have HB7:=Lib.hid (HBk.out.trans (Below.setCell (p:=⟨g,o2+k,none⟩) (hc7.mono HBx.out.size) hBg (.string (bs (mPart x y)))))
    clear hc7 hfr hfr2 hcx
    go_wp2
    go_roundw
    case rel=>
     refine⟨k+1,by omega,by go_num,?_,HB7.out,fun j hj=>?_⟩
     ·rw[mixL_succ HKx.out,←HXe.out.1,←HXe.out.2]
      exact HN7.out
     ·by_cases e:j=k
      ·rw[e,←HXe.out.1,←HXe.out.2]
       exact HV.out
      ·exact HCk.out j (by omega)
    case measure=>simp[intOf];omega
  ·obtain rfl:k=m:=by omega
   have x1:=HBx.out.x1
   have y1:=HBx.out.y1
   have z0:=HBx.out.z0
   have z1:=HBx.out.z1
   have f0:=HBx.out.fz 0
   have f1:=HBx.out.fz 1
   have hE:Hid (meetL p q=some (mPat p q)):=by
    show meetL p q=_
    have:=meetL_yes (p:=p) (q:=q) (allOk_of HEp.out) (HLe.out) (HCm.out) (fun j hj=>HCk.out j (by rw[HN.out.2.1] at hj;exact hj))
    exact this
   have hML:Hid ((mPat p q).parts.length=n):=by
    show _=_
    rw[mPat_len,HN.out.1,HN.out.2.1]
    omega
   have hMR:Hid ((mPat p q).rest=(re && rf)):=by
    show _=_
    rw[←HN.out.2.2.1,←HN.out.2.2.2]
    rfl
   have hMN:Hid (NewS wr (w.heap.size+3) A2 c2 (mPat p q).parts):=by
    have:=HNk.out
    rw[mixL_end (allOk_of HEp.out) (HLe.out) (by rw[HN.out.2.1];exact Nat.le_refl _)] at this
    exact this
   have hMS:=fun (u0 u1:Value)=>Lib.hid (((hMN.out.set (p:=⟨w.heap.size+2,0,none⟩) u0 (Nat.lt_succ_self _)).set (p:=⟨w.heap.size+2,1,none⟩) u1 (Nat.lt_succ_self _)).mono (by omega:w.heap.size≤w.heap.size+3))
   have hc8:=fun (u0 u1:Value)=>Lib.hid (show Calm w ((wr.setCell ⟨w.heap.size+2,0,none⟩ u0).setCell ⟨w.heap.size+2,1,none⟩ u1) from Below.setCell (Below.setCell HCr.out (by show w.heap.size≤w.heap.size+2;omega) _) (by show w.heap.size≤w.heap.size+2;omega) _)
   cases re <;> cases rf
   all_goals
    go_wp2
    refine bodyPost_ret ?_ rfl ⟨.inl ⟨mPat p q,A2,c2,hE.out,by rw[hML.out,hMR.out],(hMS _ _).out⟩,(hc8 _ _).out⟩
    rw[results_cell_slot rfl]
    go_simp
set_option maxHeartbeats 8000000 in
theorem meet_short (p q:Pat) (A A':Option Addr) (c c':Nat) (w:World) (hp:PatA w A c p) (hq:PatA w A' c' q) (ep:patErr p=0) (eq:patErr q=0) (hl:p.parts.length < q.parts.length) (hcm:compat p q=true) :
  Calls Tryz.prog 168 #[.agg #[.slice A p.parts.length c,.bool p.rest],.agg #[.slice A' q.parts.length c',.bool q.rest]] w fun e w'=>MeetEnd p q w.heap.size e w'∧Calm w w':=by
 obtain⟨n,hn⟩:∃n,p.parts.length=n:=⟨_,rfl⟩
 obtain⟨m,hm⟩:∃m,q.parts.length=m:=⟨_,rfl⟩
 obtain⟨re,hre⟩:∃re,p.rest=re:=⟨_,rfl⟩
 obtain⟨rf,hrf⟩:∃rf,q.rest=rf:=⟨_,rfl⟩
 have hnl:=hp.r.len
 have hml:=hq.r.len
 obtain⟨w1,hw1⟩:∃w1,w1=((w.alloc (.cells #[.slice A n c,.bool re] 65)).alloc (.cells #[.slice A' m c',.bool rf] 65)).alloc (.cells #[.slice none 0 0,.bool false] 65):=⟨_,rfl⟩
 have hc1:Calm w w1:=by rw[hw1];exact (((Calm.refl w).alloc _).alloc _).alloc _
 have hbox:Box3 w1 w.heap.size A n c re A' m c' rf:=by
  rw[hw1]
  exact⟨by simp,by simp[go_sem],by simp[go_sem],by simp[go_sem],by simp[go_sem],by simp[go_sem],by simp[go_sem],fun o=>by simp[go_sem],fun o=>by simp[go_sem],fun o=>by simp[go_sem]⟩
 have KP:Hid (∀W,Calm w1 W→Calls Tryz.prog 197 #[.agg #[.slice A n c,.bool re]] W fun e w'=>e=.returned (.int .i64 0)∧Calm W w'):=fun W hW=>checkA_c p n c re A W ((hp.calm hc1).calm hW) ep hn hre
 have KQ:Hid (∀W,Calm w1 W→Calls Tryz.prog 197 #[.agg #[.slice A' m c',.bool rf]] W fun e w'=>e=.returned (.int .i64 0)∧Calm W w'):=fun W hW=>checkA_c q m c' rf A' W ((hq.calm hc1).calm hW) eq hm hrf
 have KM:Hid (∀W,Calls Tryz.prog 199 #[.int .i64 n,.bool re,.int .i64 m,.bool rf] W fun e w'=>e=.returned (.bool true)∧W=w'):=fun W=>compat_c n m re rf true W (by omega) (by omega) (by rw[←hn,←hm,←hre,←hrf];exact hcm)
 have KC:Hid (∀W,Calm w W→Calls Tryz.prog 118 #[.slice A' m c'] W fun e w'=>(∃A2 c2,e=.returned (.slice A2 m c2)∧NewS w' W.heap.size A2 c2 q.parts)∧Calm W w'):=fun W hW=>by
  have:=clone_c q.parts A' c' W (hq.calm hW).r.toU
  unfold CloneEnd at this
  rw[hm] at this
  exact this
 have HLe:=Lib.hid hl
 rw[hn,hm] at hl
 rw[hn,hm,hre,hrf]
 rw[hn] at hnl
 rw[hm] at hml
 have HW:=Lib.hid hw1
 have HC:=Lib.hid hc1
 have HB:=Lib.hid hbox
 have HN:=Lib.hid (And.intro hn (And.intro hm (And.intro hre hrf)))
 have HP:=Lib.hid hp
 have HQ:=Lib.hid hq
 have HEp:=Lib.hid ep
 have HEq:=Lib.hid eq
 have HCm:=Lib.hid hcm
 clear hw1 hc1 hbox hn hm hre hrf hp hq ep eq hcm
 go_enter Tryz.func168,Tryz.ntmps168
 go_wp2_with fail
 rw[←HW.out]
 refine (KP.out w1 (Calm.refl _)).mono ?_
 rintro e w2 ⟨rfl,hc2⟩
 have b2:=HB.out.calm hc2
 have y0:=b2.y0
 have y1:=b2.y1
 clear b2
 go_wp2_with fail
 refine (KQ.out w2 hc2).mono ?_
 rintro e w3 ⟨rfl,hc3⟩
 have HB3:=Lib.hid (HB.out.calm (hc2.trans hc3))
 have x0:=HB3.out.x0
 have x1:=HB3.out.x1
 have y0:=HB3.out.y0
 have y1:=HB3.out.y1
 go_wp2_with fail
 refine (KM.out w3).mono ?_
 rintro e w4 ⟨rfl,rfl⟩
 have fx0:=HB3.out.fx 0
 have fx1:=HB3.out.fx 1
 have fy0:=HB3.out.fy 0
 have fy1:=HB3.out.fy 1
 go_wp2_with fail
 obtain⟨w5,hw5⟩:∃w5,w5=(((w3.setCell ⟨w.heap.size,0,none⟩ (.slice A' m c')).setCell ⟨w.heap.size,1,none⟩ (.bool rf)).setCell ⟨w.heap.size+1,0,none⟩ (.slice A n c)).setCell ⟨w.heap.size+1,1,none⟩ (.bool re):=⟨_,rfl⟩
 rw[←hw5]
 have HB5:Hid (Box3 w5 w.heap.size A' m c' rf A n c re):=by rw[hw5];exact HB3.out.swap
 have HC5:Hid (Calm w w5):=by
  rw[hw5]
  exact Below.setCell (Below.setCell (Below.setCell (Below.setCell (HC.out.trans (hc2.trans hc3)) (Nat.le_refl _) _) (Nat.le_refl _) _) (by show w.heap.size≤w.heap.size+1;omega) _) (by show w.heap.size≤w.heap.size+1;omega) _
 clear hw5 x0 x1 y0 y1 hc2 hc3 fx0 fx1 fy0 fy1
 refine (KC.out w5 HC5.out).mono ?_
 rintro e w6 ⟨⟨A2,c2,rfl,hn6⟩,hc6⟩
 have HC6:=Lib.hid (HC5.out.trans hc6)
 have HB6:=Lib.hid (HB5.out.calm hc6)
 have HN6:=Lib.hid (hn6.mono HB5.out.size)
 have y0:=HB6.out.y0
 clear hc6 hn6 KP KQ KM KC
 go_wp2_with fail
 go_loopw [48] (fun u wr=>∃k:Nat,k≤n∧u=.int .i64 k∧Hid (NewS wr (w.heap.size+3) A2 c2 (mixL q p k))∧Hid (Below (w.heap.size+3) w6 wr)∧Hid (∀j,j < k→canMeet (pAt q j) (pAt p j)=true)) (fun u _=>n - (intOf u).toNat)
 case atStart=>exact⟨0,Nat.zero_le _,rfl,by rw[mixL_zero];exact HN6.out,Below.refl _ _,fun j hj=>absurd hj (Nat.not_lt_zero _)⟩
 case round=>
  obtain⟨k,hk,rfl,HNk,HBk,HCk⟩:=hrel
  have HBx:=Lib.hid (HB6.out.low HBk.out)
  have HCr:Hid (Calm w wr):=Below.trans HC6.out (HBk.out.mono (by omega))
  by_cases hlt:k < n
  ·obtain⟨b,o,y,rfl,hb,hy,hyl,hcy⟩:=(HP.out.calm HCr.out).r.get (k:=k) (by rw[HN.out.1];exact hlt)
   obtain⟨g,o2,x,rfl,hBg,hx,hxl,hcx⟩:=HNk.out.get (k:=k) (by rw[mixL_len,HN.out.2.1];omega)
   have hkx:k < q.parts.length:=by rw[HN.out.2.1];omega
   have hxe:x=pAt q k:=by
    rw[mixL_get hkx] at hx
    simpa using hx.symm
   have hye:y=pAt p k:=by
    rw[pAt_get (by rw[HN.out.1];exact hlt)] at hy
    exact (Option.some.inj hy).symm
   have hxl2:x.length≤16384:=by
    rw[hxe]
    exact HQ.out.r.each _ (List.mem_of_getElem? (pAt_get hkx))
   have hfr:=HNk.out.free k
   have hfr2:=HNk.out.free (o2+k)
   have hknx:k < m:=by omega
   obtain⟨v,hv⟩:∃v,canMeet x y=v:=⟨_,rfl⟩
   have hmp:=mtpart_c x y v wr hxl2 hyl hv
   have hgb:g < wr.heap.size:=by
    obtain⟨cs,hh⟩:=HNk.out.row _ rfl
    exact heap_lt hh
   have HKx:=Lib.hid hkx
   have HXe:=Lib.hid (And.intro hxe hye)
   have HV:=Lib.hid hv
   have HGb:=Lib.hid hgb
   clear hx hy hxe hye hv hxl2 hkx hgb
   cases v with
   |false=>
    have hME:mPartE x y=[]:=by rw[mPartE,HV.out];rfl
    rw[hME] at hmp
    clear hME hfr hfr2
    go_wp2_with fail
    refine hmp.mono ?_
    rintro e w7 ⟨rfl,hc7⟩
    have b7:=HBx.out.calm hc7
    have z0:=b7.z0
    have z1:=b7.z1
    have f0:=b7.fz 0
    have f1:=b7.fz 1
    clear b7
    have hE:Hid (meetL p q=none):=by
     show meetL p q=none
     have h2:=HV.out
     rw[HXe.out.1,HXe.out.2] at h2
     have:=meetL_bad h2
     rw[meetL_comm (allOk_of HEp.out) (allOk_of HEq.out)];exact this
    have hc8:Calm w ((w7.setCell ⟨w.heap.size+2,0,none⟩ (.slice none 0 0)).setCell ⟨w.heap.size+2,1,none⟩ (.bool false)):=Below.setCell (Below.setCell (HCr.out.trans hc7) (by show w.heap.size≤w.heap.size+2;omega) _) (by show w.heap.size≤w.heap.size+2;omega) _
    clear hc7
    go_wp2
    refine bodyPost_ret (v:=.tuple #[.agg #[.slice none 0 0,.bool false],.bool false]) ?_ rfl ⟨.inr ⟨hE.out,rfl⟩,hc8⟩
    rw[results_cell_slot rfl]
    go_simp
   |true=>
    have hME:mPartE x y=mPart x y:=by rw[mPartE,HV.out];rfl
    rw[hME] at hmp
    have hzl:Hid ((mPart x y).length≤1048576):=by
     show (mPart x y).length≤1048576
     rcases mPart_or x y with e | e <;> rw[e] <;> omega
    clear hME
    go_wp2_with fail
    refine hmp.mono ?_
    rintro e w7 ⟨rfl,hc7⟩
    have hcx7:=(hc7.cell (p:=⟨g,o2+k,none⟩) HGb.out).trans hcx
    have hfr7:=(hc7.frozen (p:=⟨g,o2+k,none⟩) HGb.out).trans hfr2
    have HN7:=Lib.hid ((HNk.out.calm hc7).put (k:=k) (z:=mPart x y) (by rw[mixL_len,HN.out.2.1];omega) hzl.out)
    have HB7:=Lib.hid (HBk.out.trans (Below.setCell (p:=⟨g,o2+k,none⟩) (hc7.mono HBx.out.size) hBg (.string (bs (mPart x y)))))
    clear hc7 hfr hfr2 hcx
    go_wp2
    go_roundw
    case rel=>
     refine⟨k+1,by omega,by go_num,?_,HB7.out,fun j hj=>?_⟩
     ·rw[mixL_succ HKx.out,←HXe.out.1,←HXe.out.2]
      exact HN7.out
     ·by_cases e:j=k
      ·rw[e,←HXe.out.1,←HXe.out.2]
       exact HV.out
      ·exact HCk.out j (by omega)
    case measure=>simp[intOf];omega
  ·obtain rfl:k=n:=by omega
   have x1:=HBx.out.x1
   have y1:=HBx.out.y1
   have z0:=HBx.out.z0
   have z1:=HBx.out.z1
   have f0:=HBx.out.fz 0
   have f1:=HBx.out.fz 1
   have hE:Hid (meetL p q=some (mPat q p)):=by
    show meetL p q=_
    have:=meetL_yes (p:=q) (q:=p) (allOk_of HEq.out) (Nat.le_of_lt HLe.out) (compat_comm p q ▸ HCm.out) (fun j hj=>HCk.out j (by rw[HN.out.1] at hj;exact hj))
    rw[meetL_comm (allOk_of HEp.out) (allOk_of HEq.out)];exact this
   have hML:Hid ((mPat q p).parts.length=m):=by
    show _=_
    rw[mPat_len,HN.out.2.1,HN.out.1]
    omega
   have hMR:Hid ((mPat q p).rest=(rf && re)):=by
    show _=_
    rw[←HN.out.2.2.2,←HN.out.2.2.1]
    rfl
   have hMN:Hid (NewS wr (w.heap.size+3) A2 c2 (mPat q p).parts):=by
    have:=HNk.out
    rw[mixL_end (allOk_of HEq.out) (Nat.le_of_lt HLe.out) (by rw[HN.out.1];exact Nat.le_refl _)] at this
    exact this
   have hMS:=fun (u0 u1:Value)=>Lib.hid (((hMN.out.set (p:=⟨w.heap.size+2,0,none⟩) u0 (Nat.lt_succ_self _)).set (p:=⟨w.heap.size+2,1,none⟩) u1 (Nat.lt_succ_self _)).mono (by omega:w.heap.size≤w.heap.size+3))
   have hc8:=fun (u0 u1:Value)=>Lib.hid (show Calm w ((wr.setCell ⟨w.heap.size+2,0,none⟩ u0).setCell ⟨w.heap.size+2,1,none⟩ u1) from Below.setCell (Below.setCell HCr.out (by show w.heap.size≤w.heap.size+2;omega) _) (by show w.heap.size≤w.heap.size+2;omega) _)
   cases rf <;> cases re
   all_goals
    go_wp2
    refine bodyPost_ret ?_ rfl ⟨.inl ⟨mPat q p,A2,c2,hE.out,by rw[hML.out,hMR.out],(hMS _ _).out⟩,(hc8 _ _).out⟩
    rw[results_cell_slot rfl]
    go_simp
end Go.Proofs.YtcofdlipapnohaaGreatDoor
