/- Rows of regions of the call's own. -/
import Derived.Laws.IdiomCopy
import Derived.Deep.Upon
import Derived.Maps.AppendAt
import Derived.IntWalk
import Derived.Lib.SliceRun
import Derived.Deep.RegionLaw
import Derived.Deep.RegionHeld3
import Derived.Lib.AppendZeros
import Derived.Test.YtdcdabbepnahnaaGreatDoorZMeetW
import Derived.Test.YtdcdabbepnahnaaGreatDoorZCopyP
import Derived.Test.YtdcdabbepnahnaaGreatDoorZAppX
import Derived.Test.YtdcdabbepnahnaaGreatDoorZMeetL
import Derived.Test.YtdcdabbepnahnaaGreatDoorZMapO
set_option linter.unusedVariables false
set_option linter.unusedSimpArgs false
namespace Go.Proofs.YtdcdabbepnahnaaGreatDoor
open Go Go.RowKit Sy
theorem join_a (ls:List Str) (A:Option Addr) (n c:Nat) (w:World) (h:StrsR w A ls) (h0:0 < ls.length) (hc:ls.length≤c) (hn:ls.length=n) :
  Calls Tryz.prog 120 #[.slice A n c,.string ⟨#[47]⟩] w fun e w'=>e=.returned (.string (bs (Lib.join ls [47])))∧Calm w w':=by
 subst hn
 obtain⟨b,o,rfl,hb,hk⟩:=h.at_ h0
 exact join_off_c ls b o c w hk hb hc (by have:=h.len;omega) (fun l hl=>by have:=h.each l hl;omega)
set_option maxHeartbeats 1000000 in
theorem text_c (p:Pat) (n c:Nat) (re:Bool) (A:Option Addr) (w:World) (hp:PatA w A c p) (h0:0 < p.parts.length) (hn:p.parts.length=n) (hre:p.rest=re) :
  Calls Tryz.prog 129 #[.agg #[.slice A n c,.bool re]] w fun e w'=>e=.returned (.string (bs (patText p)))∧Calm w w':=by
 obtain⟨w1,hw1⟩:∃w1,w1=w.alloc (.cells #[.slice A n c,.bool re] 51):=⟨_,rfl⟩
 have hc1:Calm w w1:=by rw[hw1];exact (Calm.refl w).alloc _
 have hs1:w.heap.size < w1.heap.size:=by rw[hw1];simp
 have k1:w1.cell? ⟨w.heap.size,1,none⟩=some (.bool re):=by rw[hw1];simp[go_sem]
 have hj:=join_a p.parts A n c w1 (hp.calm hc1).r h0 hp.room hn
 have hjl:=join47_len (ls:=p.parts) (by have:=hp.r.len;omega) (fun l hl=>by have:=hp.r.each l hl;omega)
 have hv:Hid (bs (patText p)=if re then ⟨#[47,47]⟩++bs (Lib.join p.parts [47])++⟨#[47,46,46,46]⟩ else ⟨#[47,47]⟩++bs (Lib.join p.parts [47])):=by
  show _=_
  unfold patText pathStr
  rw[hre]
  cases re
  ·simp only[Bool.false_eq_true,if_false,List.append_nil]
   exact bs_append [47,47] _
  ·simp only[if_true]
   rw[bs_append,show bs (47 :: 47 :: Lib.join p.parts [47])=⟨#[47,47]⟩++bs (Lib.join p.parts [47]) from bs_append [47,47] _]
   rfl
 have HW:=Lib.hid hw1
 have HC:=Lib.hid hc1
 have HK:=Lib.hid k1
 clear hw1 hc1 hp hn hre k1 h0
 generalize Lib.join p.parts [47]=J at hj hjl hv
 have hsz:=bs_size J
 cases re with
 |false=>
  go_enter Tryz.func129,Tryz.ntmps129
  go_wp2_with (go_at_call 120;rw[←HW.out];refine hj.mono ?_;rintro e w2 ⟨rfl,hc2⟩;have k1:=hc2.at_ HK.out hs1)
  go_ret
  exact⟨ret_str (by rw[hv.out];rfl),HC.out.trans hc2⟩
 |true=>
  go_enter Tryz.func129,Tryz.ntmps129
  go_wp2_with (go_at_call 120;rw[←HW.out];refine hj.mono ?_;rintro e w2 ⟨rfl,hc2⟩;have k1:=hc2.at_ HK.out hs1)
  go_ret
  exact⟨ret_str (by rw[hv.out];rfl),HC.out.trans hc2⟩
structure BoxP (w1:World) (B:Nat) (AX:Option Addr) (nx cx:Nat) (rx:Bool) (AY:Option Addr) (ny cy:Nat) (ry:Bool):Prop where
 size:B+2≤w1.heap.size
 x0:w1.cell? ⟨B,0,none⟩=some (.slice AX nx cx)
 x1:w1.cell? ⟨B,1,none⟩=some (.bool rx)
 y0:w1.cell? ⟨B+1,0,none⟩=some (.slice AY ny cy)
 y1:w1.cell? ⟨B+1,1,none⟩=some (.bool ry)
theorem BoxP.calm {w1 w2:World} {B:Nat} {AX:Option Addr} {nx cx:Nat} {rx:Bool} {AY:Option Addr} {ny cy:Nat} {ry:Bool} (h:BoxP w1 B AX nx cx rx AY ny cy ry) (hc:Calm w1 w2):BoxP w2 B AX nx cx rx AY ny cy ry:=
 have h0:B < w1.heap.size:=by have:=h.size;omega
 have h1:B+1 < w1.heap.size:=by have:=h.size;omega
 ⟨Nat.le_trans h.size hc.size,hc.at_ h.x0 h0,hc.at_ h.x1 h0,hc.at_ h.y0 h1,hc.at_ h.y1 h1⟩
set_option maxHeartbeats 4000000 in
theorem inside_c (p q:Pat) (v:Bool) (n m c c':Nat) (re rf:Bool) (A A':Option Addr) (w:World) (hp:PatA w A c p) (hq:PatA w A' c' q) (hn:p.parts.length=n) (hm:q.parts.length=m) (hre:p.rest=re) (hrf:q.rest=rf) (hv:insideP p q=v) :
  Calls Tryz.prog 136 #[.agg #[.slice A n c,.bool re],.agg #[.slice A' m c',.bool rf]] w fun e w'=>e=.returned (.bool v)∧Calm w w':=by
 have hnl:=hp.r.len
 have hml:=hq.r.len
 rw[hn] at hnl
 rw[hm] at hml
 obtain⟨w1,hw1⟩:∃w1,w1=(w.alloc (.cells #[.slice A n c,.bool re] 51)).alloc (.cells #[.slice A' m c',.bool rf] 51):=⟨_,rfl⟩
 have hc1:Calm w w1:=by rw[hw1];exact ((Calm.refl w).alloc _).alloc _
 have hbox:BoxP w1 w.heap.size A n c re A' m c' rf:=by
  rw[hw1]
  exact⟨by simp,by simp[go_sem],by simp[go_sem],by simp[go_sem],by simp[go_sem]⟩
 have HLen:Hid (lenIn p q=if rf then (if re then decide (m≤n) else decide (m < n)) else (!re && n == m)):=by
  show lenIn p q=_
  unfold lenIn
  rw[hn,hm,hre,hrf]
 have hlt0:w.heap.size < w1.heap.size:=by have:=hbox.size;omega
 have hlt1:w.heap.size+1 < w1.heap.size:=by have:=hbox.size;omega
 have q0:=fun W:CalmTo w1=>W.cell hbox.x0 hlt0
 have q1:=fun W:CalmTo w1=>W.cell hbox.x1 hlt0
 have q2:=fun W:CalmTo w1=>W.cell hbox.y0 hlt1
 have q3:=fun W:CalmTo w1=>W.cell hbox.y1 hlt1
 have HW:=Lib.hid hw1
 have HC:=Lib.hid hc1
 have HB:=Lib.hid hbox
 have HN:=Lib.hid (And.intro hn hm)
 have HP:=Lib.hid (hp.calm hc1)
 have HQ:=Lib.hid (hq.calm hc1)
 have HV:=Lib.hid hv
 clear hw1 hc1 hbox hn hm hre hrf hp hq hv hlt0 hlt1
 go_enter Tryz.func136,Tryz.ntmps136
 go_wp2_with fail
 rw[←HW.out]
 refine wp_region_calm (by kernel_rfl) (by kernel_rfl) ?_
 repeat (go_big_quiet_step (fail))
 refine wpQuiet_nil ?_
 intro w2 hc2
 have HB2:=Lib.hid (HB.out.calm hc2)
 have HC2:=Lib.hid hc2
 have x0:=HB2.out.x0
 have x1:=HB2.out.x1
 have y0:=HB2.out.y0
 have y1:=HB2.out.y1
 clear q0 q1 q2 q3 hc2
 by_cases hL:lenIn p q=true
 ·have hmn:m≤n:=by
   have:=HLen.out
   rw[hL] at this
   cases rf <;> cases re <;> simp at this <;> omega
  have h3:rf=false→re=false∧n=m:=fun e=>by
   have:=HLen.out
   rw[hL,e] at this
   simpa using this
  have h4:rf=true→re=false→m < n:=fun e e2=>by
   have:=HLen.out
   rw[hL,e,e2] at this
   simpa using this
  have HL:=Lib.hid hL
  clear hL
  have key:(rf=false∧re=false∧m=n)∨(rf=true∧re=false∧m < n)∨(rf=true∧re=true):=by
   cases rf
   ·exact .inl ⟨rfl,(h3 rfl).1,(h3 rfl).2.symm⟩
   ·cases re
    ·exact .inr (.inl ⟨rfl,rfl,h4 rfl rfl⟩)
    ·exact .inr (.inr ⟨rfl,rfl⟩)
  clear h3 h4
  have HMn:=Lib.hid hmn
  rcases key with⟨rfl,rfl,hmn2⟩ | ⟨rfl,rfl,hlt⟩ | ⟨rfl,rfl⟩
  all_goals
   try (have hb1:((n:Int) != (m:Int))=false:=by (simp;omega))
   try clear hmn2
   go_wp2_with fail
   go_loopw [50] (fun u wr=>∃k:Nat,k≤m∧u=.int .i64 k∧Hid (∀j,j < k→inside (pAt p j) (pAt q j)=true)∧Hid (Calm w1 wr)) (fun u _=>m - (intOf u).toNat)
   case atStart=>exact⟨0,Nat.zero_le _,rfl,fun j hj=>absurd hj (Nat.not_lt_zero _),HC2.out⟩
   case round=>
    obtain⟨k,hk,rfl,HI,HCr⟩:=hrel
    have HBr:=Lib.hid (HB.out.calm HCr.out)
    have x0:=HBr.out.x0
    by_cases hkm:k < m
    ·have hmn:=HMn.out
     have hkn:k < n:=by omega
     obtain⟨b,o,y,rfl,hb,hy,hyl,hcy⟩:=(HQ.out.calm HCr.out).r.get (k:=k) (by rw[HN.out.2];exact hkm)
     obtain⟨b',o',x,rfl,hb',hx,hxl,hcx⟩:=(HP.out.calm HCr.out).r.get (k:=k) (by rw[HN.out.1];exact hkn)
     obtain⟨z,hz⟩:∃z,inside x y=z:=⟨_,rfl⟩
     have hcall:=within_v x y z wr hxl hyl hz
     have hxe:x=pAt p k:=by
      rw[pAt_get (by rw[HN.out.1];exact hkn)] at hx
      exact (Option.some.inj hx).symm
     have hye:y=pAt q k:=by
      rw[pAt_get (by rw[HN.out.2];exact hkm)] at hy
      exact (Option.some.inj hy).symm
     have HZ:Hid (inside (pAt p k) (pAt q k)=z):=by
      show _=_
      rw[←hxe,←hye]
      exact hz
     clear hx hy hxe hye hz
     cases z with
     |true=>
      go_wp2_with fail
      refine hcall.mono ?_
      rintro e w3 ⟨rfl,hc3⟩
      go_wp2
      go_roundw
      case rel=>
       refine⟨k+1,by omega,by go_num,fun j hj=>?_,HCr.out.trans hc3⟩
       by_cases e:j=k
       ·rw[e]
        exact HZ.out
       ·exact HI.out j (by omega)
      case measure=>simp[intOf];omega
     |false=>
      have hE:Hid (v=false):=by
       show v=false
       rw[←HV.out,insideP,Bool.and_eq_false_iff]
       refine .inr ?_
       rw[List.all_eq_false]
       exact⟨k,List.mem_range.2 (by rw[HN.out.2];exact hkm),by rw[HZ.out];simp⟩
      go_wp2_with fail
      refine hcall.mono ?_
      rintro e w3 ⟨rfl,hc3⟩
      go_wp2
      go_ret
      exact⟨ret_bool (by rw[hE.out]),HC.out.trans (HCr.out.trans hc3)⟩
    ·obtain rfl:k=m:=by omega
     have hE:Hid (v=true):=by
      show v=true
      rw[←HV.out,insideP,HL.out,Bool.true_and,List.all_eq_true]
      exact fun j hj=>HI.out j (by have:=List.mem_range.1 hj;rw[HN.out.2] at this;exact this)
     go_wp2
     go_ret
     exact⟨ret_bool (by rw[hE.out]),HC.out.trans HCr.out⟩
 ·have hLf:lenIn p q=false:=by simpa using hL
  have hE:Hid (v=false):=by
   show v=false
   rw[←HV.out,insideP,hLf]
   rfl
  have key:(rf=false∧re=true)∨(rf=false∧re=false∧n≠m)∨(rf=true∧n < m)∨(rf=true∧re=false∧n=m):=by
   have h:=HLen.out
   rw[hLf] at h
   cases rf
   ·cases re
    ·refine .inr (.inl ⟨rfl,rfl,fun e=>?_⟩)
     rw[e] at h
     simp at h
    ·exact .inl ⟨rfl,rfl⟩
   ·cases re
    ·have h2:¬m < n:=by simpa using h.symm
     by_cases h3:n < m
     ·exact .inr (.inr (.inl ⟨rfl,h3⟩))
     ·exact .inr (.inr (.inr ⟨rfl,rfl,by omega⟩))
    ·have h2:¬m≤n:=by simpa using h.symm
     exact .inr (.inr (.inl ⟨rfl,by omega⟩))
  clear hL hLf
  rcases key with⟨rfl,rfl⟩ | ⟨rfl,rfl,hne⟩ | ⟨rfl,hlt⟩ | ⟨rfl,rfl,rfl⟩
  ·go_wp2
   go_ret
   exact⟨ret_bool (by rw[hE.out]),HC.out.trans HC2.out⟩
  ·have hb1:((n:Int) != (m:Int))=true:=by simp;omega
   clear hne
   go_wp2
   go_ret
   exact⟨ret_bool (by rw[hE.out]),HC.out.trans HC2.out⟩
  ·by_cases hre:re=true
   ·subst hre
    go_wp2
    go_ret
    exact⟨ret_bool (by rw[hE.out]),HC.out.trans HC2.out⟩
   ·obtain rfl:re=false:=by simpa using hre
    go_wp2
    go_ret
    exact⟨ret_bool (by rw[hE.out]),HC.out.trans HC2.out⟩
  ·go_wp2
   go_ret
   exact⟨ret_bool (by rw[hE.out]),HC.out.trans HC2.out⟩
theorem PatsR.get {w:World} {A:Option Addr} {ps:List Pat} (h:PatsR w A ps) {k:Nat} (hk:k < ps.length):∃b o p Ak ck,A=some ⟨b,o,none⟩∧b < w.heap.size∧ps[k]?=some p∧w.cell? ⟨b,o+k * 2,none⟩=some (.slice Ak p.parts.length ck)∧w.cell? ⟨b,o+k * 2+1,none⟩=some (.bool p.rest)∧p.parts.length≤ck∧ck≤9223372036854775807∧StrsR w Ak p.parts:=by
 obtain⟨b,o,hA,hb,hc⟩:=h.at_ (by omega)
 obtain⟨Ak,ck,h1,h2,h3,h4,h5⟩:=hc k _ (List.getElem?_eq_getElem hk)
 exact⟨b,o,ps[k],Ak,ck,hA,hb,List.getElem?_eq_getElem hk,h1,h2,h3,h4,h5⟩
structure SmallN (w:World) (B:Nat) (x:NewP):Prop where
 new:NewS w B x.A x.c x.p.parts
 few:x.p.parts.length≤16384
 each:∀l∈x.p.parts,l.length≤16384
theorem SmallN.a {w:World} {B:Nat} {x:NewP} (h:SmallN w B x):PatA w x.A x.c x.p:=⟨h.new.u.toR h.few h.each,h.new.room,h.new.cap⟩
theorem SmallN.calm {w w':World} {B:Nat} {x:NewP} (h:SmallN w B x) (hc:Calm w w'):SmallN w' B x:=⟨h.new.calm hc,h.few,h.each⟩
theorem SmallN.own {w w':World} {B:Nat} {x:NewP} (h:SmallN w B x) {B0 n K:Nat} {v:Value} {T:TypeId} {xs:List Value} (hT:9≠T) (hown:w.ownsRow B0 T K v n xs) (hg:w.grownBy w' v.ownBlock):SmallN w' B x:=⟨h.new.grown hT hown hg,h.few,h.each⟩
theorem SmallN.mono {w:World} {B B':Nat} {x:NewP} (h:SmallN w B x) (hB:B'≤B):SmallN w B' x:=⟨h.new.mono hB,h.few,h.each⟩
theorem OwnX.shape {α:Type} {enc:α→List Value} {K:Nat} {T:TypeId} {w0 w:World} {v:Value} {l:List α} (h:OwnX enc K T w0 w v l):∃A n c,v=.slice A n c:=by
 rcases h.own.2 with⟨rfl,_⟩ | ⟨g,cap,cur,rfl,_⟩
 ·exact⟨_,_,_,rfl⟩
 ·exact⟨_,_,_,rfl⟩
theorem SmallN.set {w:World} {B:Nat} {x:NewP} (h:SmallN w B x) {p:Addr} (u:Value) (hp:p.block < B):SmallN (w.setCell p u) B x:=⟨h.new.set u hp,h.few,h.each⟩
set_option maxHeartbeats 4000000 in
theorem meet_far (p q:Pat) (A A':Option Addr) (c c':Nat) (w:World) (hp:PatA w A c p) (hq:PatA w A' c' q) (ep:patErr p=0) (eq:patErr q=0) (hcm:compat p q=false) :
  Calls Tryz.prog 75 #[.agg #[.slice A p.parts.length c,.bool p.rest],.agg #[.slice A' q.parts.length c',.bool q.rest]] w fun e w'=>MeetEnd p q w.heap.size e w'∧Calm w w':=by
 obtain⟨n,hn⟩:∃n,p.parts.length=n:=⟨_,rfl⟩
 obtain⟨m,hm⟩:∃m,q.parts.length=m:=⟨_,rfl⟩
 obtain⟨re,hre⟩:∃re,p.rest=re:=⟨_,rfl⟩
 obtain⟨rf,hrf⟩:∃rf,q.rest=rf:=⟨_,rfl⟩
 have hnl:=hp.r.len
 have hml:=hq.r.len
 obtain⟨w1,hw1⟩:∃w1,w1=((w.alloc (.cells #[.slice A n c,.bool re] 51)).alloc (.cells #[.slice A' m c',.bool rf] 51)).alloc (.cells #[.slice none 0 0,.bool false] 51):=⟨_,rfl⟩
 have hc1:Calm w w1:=by rw[hw1];exact (((Calm.refl w).alloc _).alloc _).alloc _
 have hbox:Box3 w1 w.heap.size A n c re A' m c' rf:=by
  rw[hw1]
  exact⟨by simp,by simp[go_sem],by simp[go_sem],by simp[go_sem],by simp[go_sem],by simp[go_sem],by simp[go_sem],fun o=>by simp[go_sem],fun o=>by simp[go_sem],fun o=>by simp[go_sem]⟩
 have KP:Hid (∀W,Calm w1 W→Calls Tryz.prog 110 #[.agg #[.slice A n c,.bool re]] W fun e w'=>e=.returned (.int .i64 0)∧Calm W w'):=fun W hW=>checkA_c p n c re A W ((hp.calm hc1).calm hW) ep hn hre
 have KQ:Hid (∀W,Calm w1 W→Calls Tryz.prog 110 #[.agg #[.slice A' m c',.bool rf]] W fun e w'=>e=.returned (.int .i64 0)∧Calm W w'):=fun W hW=>checkA_c q m c' rf A' W ((hq.calm hc1).calm hW) eq hm hrf
 rw[hn] at hnl
 rw[hm] at hml
 have KM:Hid (∀W,Calls Tryz.prog 111 #[.int .i64 n,.bool re,.int .i64 m,.bool rf] W fun e w'=>e=.returned (.bool false)∧W=w'):=fun W=>compat_c n m re rf false W (by omega) (by omega) (by rw[←hn,←hm,←hre,←hrf];exact hcm)
 have hE:=Lib.hid (meetL_far hcm)
 rw[hn,hm,hre,hrf]
 have HW:=Lib.hid hw1
 have HC:=Lib.hid hc1
 have HB:=Lib.hid hbox
 clear hw1 hc1 hbox hn hm hre hrf hp hq ep eq hcm
 go_enter Tryz.func75,Tryz.ntmps75
 go_wp2_with fail
 rw[←HW.out]
 refine (KP.out w1 (Calm.refl _)).mono ?_
 rintro e w2 ⟨rfl,hc2⟩
 have b2:=HB.out.calm hc2
 have y0:=b2.y0
 have y1:=b2.y1
 clear b2
 go_wp2_with fail
 refine (KQ.out w2 hc2).mono ?_
 rintro e w3 ⟨rfl,hc3⟩
 have HB3:=Lib.hid (HB.out.calm (hc2.trans hc3))
 have x0:=HB3.out.x0
 have x1:=HB3.out.x1
 have y0:=HB3.out.y0
 have y1:=HB3.out.y1
 have z0:=HB3.out.z0
 have z1:=HB3.out.z1
 have f0:=HB3.out.fz 0
 have f1:=HB3.out.fz 1
 go_wp2_with fail
 refine (KM.out w3).mono ?_
 rintro e w4 ⟨rfl,rfl⟩
 have hc8:Calm w ((w3.setCell ⟨w.heap.size+2,0,none⟩ (.slice none 0 0)).setCell ⟨w.heap.size+2,1,none⟩ (.bool false)):=Below.setCell (Below.setCell (HC.out.trans (hc2.trans hc3)) (by show w.heap.size≤w.heap.size+2;omega) _) (by show w.heap.size≤w.heap.size+2;omega) _
 clear hc2 hc3
 go_wp2
 refine bodyPost_ret (v:=.tuple #[.agg #[.slice none 0 0,.bool false],.bool false]) ?_ rfl ⟨.inr ⟨hE.out,rfl⟩,hc8⟩
 rw[results_cell_slot rfl]
 go_simp
theorem meet_c (p q:Pat) (A A':Option Addr) (c c':Nat) (w:World) (hp:PatA w A c p) (hq:PatA w A' c' q) (ep:patErr p=0) (eq:patErr q=0) :
  Calls Tryz.prog 75 #[.agg #[.slice A p.parts.length c,.bool p.rest],.agg #[.slice A' q.parts.length c',.bool q.rest]] w fun e w'=>MeetEnd p q w.heap.size e w'∧Calm w w':=by
 rcases hcm:compat p q with _ | _
 ·exact meet_far p q A A' c c' w hp hq ep eq hcm
 rcases Nat.lt_or_ge p.parts.length q.parts.length with h | h
 ·exact meet_short p q A A' c c' w hp hq ep eq h hcm
 ·exact meet_long p q A A' c c' w hp hq ep eq h hcm
theorem meet_yes (p q m:Pat) (A A':Option Addr) (c c':Nat) (w:World) (hp:PatA w A c p) (hq:PatA w A' c' q) (ep:patErr p=0) (eq:patErr q=0) (hm:meetP p q=some m) :
  Calls Tryz.prog 75 #[.agg #[.slice A p.parts.length c,.bool p.rest],.agg #[.slice A' q.parts.length c',.bool q.rest]] w fun e w'=>(∃A2 c2,e=.returned (.tuple #[.agg #[.slice A2 m.parts.length c2,.bool m.rest],.bool true])∧SmallN w' w.heap.size ⟨A2,c2,m⟩)∧Calm w w':=by
 rw[meetP,if_pos ⟨ep,eq⟩] at hm
 refine (meet_c p q A A' c c' w hp hq ep eq).mono fun e w' ⟨h1,h2⟩=>⟨?_,h2⟩
 rcases h1 with⟨m',A2,c2,h3,h4,h5⟩ | ⟨h3,_⟩
 ·rw[hm] at h3
  obtain rfl:m=m':=Option.some.inj h3
  have hok:=(patErr_iff.1 (meetL_good ep eq hm)).2.2.1
  refine⟨A2,c2,h4,h5,by show m.parts.length≤16384;omega,fun x hx=>?_⟩
  obtain⟨rfl,_,_⟩:=meetL_some hm
  obtain⟨j,hj,rfl⟩:=List.mem_map.1 hx
  have hjm:=List.mem_range.1 hj
  have hat:∀(r:Pat),(∀l∈r.parts,l.length≤16384)→(pAt r j).length≤16384:=fun r hr=>by
   by_cases hjr:j < r.parts.length
   ·exact hr _ (List.mem_of_getElem? (pAt_get hjr))
   ·rw[pAt_out (by omega)]
    decide
  rcases mPart_or (pAt p j) (pAt q j) with e | e <;> rw[e]
  ·exact hat p hp.r.each
  ·exact hat q hq.r.each
 ·rw[hm] at h3
  cases h3
theorem meet_no (p q:Pat) (A A':Option Addr) (c c':Nat) (w:World) (hp:PatA w A c p) (hq:PatA w A' c' q) (ep:patErr p=0) (eq:patErr q=0) (hm:meetP p q=none) :
  Calls Tryz.prog 75 #[.agg #[.slice A p.parts.length c,.bool p.rest],.agg #[.slice A' q.parts.length c',.bool q.rest]] w fun e w'=>e=.returned (.tuple #[.agg #[.slice none 0 0,.bool false],.bool false])∧Calm w w':=by
 rw[meetP,if_pos ⟨ep,eq⟩] at hm
 refine (meet_c p q A A' c c' w hp hq ep eq).mono fun e w' ⟨h1,h2⟩=>⟨?_,h2⟩
 rcases h1 with⟨m',A2,c2,h3,h4,h5⟩ | ⟨_,h4⟩
 ·rw[hm] at h3
  cases h3
 ·exact h4
structure PatsN (w:World) (B:Nat) (A:Option Addr) (c:Nat) (ps:List Pat):Prop where
 ex:∃l:List NewP,l.map (·.p)=ps∧((A=none∧ps=[])∨∃g,A=some ⟨g,0,none⟩∧B≤g∧RowX encP 2 51 w g 0 l)∧∀x∈l,SmallN w B x
 room:ps.length≤c
 cap:c≤9223372036854775807
variable {α:Type} {enc:α→List Value} {K:Nat} {T:TypeId}
structure PatsX (w:World) (A:Option Addr) (l:List NewP):Prop where
 each:∀x∈l,PatA w x.A x.c x.p
 read:ReadX encP 2 w A l
theorem PatsX.calm {w w':World} {A:Option Addr} {l:List NewP} (h:PatsX w A l) (hc:Calm w w'):PatsX w' A l:=⟨fun x hx=>(h.each x hx).calm hc,h.read.calm hc⟩
theorem PatsX.reads {w:World} {A:Option Addr} {l:List NewP} (h:PatsX w A l) (hl:l.length≤16384):PatsR w A (l.map (·.p)):=by
 refine⟨by rw[List.length_map];exact hl,fun h0=>?_⟩
 rw[List.length_map] at h0
 obtain⟨b,o,hA,hb,hk⟩:=h.read (List.length_pos_iff.1 h0)
 refine⟨b,o,hA,hb,fun k p hp=>?_⟩
 rw[List.getElem?_map] at hp
 obtain⟨x,hx,rfl⟩:=Option.map_eq_some_iff.1 hp
 have hpa:=h.each x (List.mem_of_getElem? hx)
 exact⟨x.A,x.c,hk k x hx 0 _ rfl,hk k x hx 1 _ rfl,hpa.room,hpa.cap,hpa.r⟩
theorem PatsR.places {w:World} {A:Option Addr} {ps:List Pat} (h:PatsR w A ps):∃l:List NewP,l.map (·.p)=ps∧PatsX w A l:=by
 rcases Nat.eq_zero_or_pos ps.length with h0 | h0
 ·have:ps=[]:=List.eq_nil_of_length_eq_zero h0
  subst this
  exact⟨[],rfl,(fun x hx=>by cases hx),fun hne=>absurd rfl hne⟩
 ·obtain⟨b,o,hA,hb,hc⟩:=h.at_ h0
  have hex:∀k:Fin ps.length,∃r:NewP,r.p=ps[k]∧PatA w r.A r.c r.p∧w.cell? ⟨b,o+k.val * 2,none⟩=some (.slice r.A r.p.parts.length r.c)∧w.cell? ⟨b,o+k.val * 2+1,none⟩=some (.bool r.p.rest):=fun k=>by
   obtain⟨Ak,ck,g1,g2,g3,g4,g5⟩:=hc k.val _ (List.getElem?_eq_getElem k.isLt)
   exact⟨⟨Ak,ck,ps[k]⟩,rfl,⟨g5,g3,g4⟩,g1,g2⟩
  let f:Fin ps.length→NewP:=fun k=>Classical.choose (hex k)
  have hf:∀k,(f k).p=ps[k]∧PatA w (f k).A (f k).c (f k).p∧w.cell? ⟨b,o+k.val * 2,none⟩=some (.slice (f k).A (f k).p.parts.length (f k).c)∧w.cell? ⟨b,o+k.val * 2+1,none⟩=some (.bool (f k).p.rest):=fun k=>Classical.choose_spec (hex k)
  refine⟨List.ofFn f,?_,fun x hx=>?_,fun _=>⟨b,o,hA,hb,fun k x hk i u hu=>?_⟩⟩
  ·apply List.ext_getElem
   ·simp
   ·intro j h1 h2
    simp only[List.getElem_map,List.getElem_ofFn]
    exact (hf ⟨j,h2⟩).1
  ·obtain⟨k,rfl⟩:=List.mem_ofFn.1 hx
   exact (hf k).2.1
  ·obtain⟨hlt,he⟩:=List.getElem?_eq_some_iff.1 hk
   simp only[List.getElem_ofFn] at he
   have hlt2:k < ps.length:=by simpa using hlt
   have:=hf ⟨k,hlt2⟩
   rw[he] at this
   match i,hu with
   |0,hu=>obtain rfl:=Option.some.inj hu;exact this.2.2.1
   |1,hu=>obtain rfl:=Option.some.inj hu;exact this.2.2.2
   |i+2,hu=>simp[encP] at hu
theorem PatsN.places {w:World} {B:Nat} {A:Option Addr} {c:Nat} {ps:List Pat} (h:PatsN w B A c ps):∃l:List NewP,l.map (·.p)=ps∧PatsX w A l:=by
 obtain⟨l,h1,h2,h3⟩:=h.ex
 refine⟨l,h1,fun x hx=>(h3 x hx).a,fun hne=>?_⟩
 rcases h2 with⟨_,h2⟩ | ⟨g,hA,hg,hr⟩
 ·rw[h2,List.map_eq_nil_iff] at h1
  exact absurd h1 hne
 ·exact⟨g,0,hA,hr.lt,hr.cell⟩
theorem PatsN.reads {w:World} {B:Nat} {A:Option Addr} {c:Nat} {ps:List Pat} (h:PatsN w B A c ps) (hl:ps.length≤16384):PatsR w A ps:=by
 obtain⟨l,h1,h2⟩:=h.places
 rw[←h1] at hl ⊢
 rw[List.length_map] at hl
 exact h2.reads hl
theorem OwnX.places {w0 wr:World} {v:Value} {l:List NewP} (h:OwnX encP 2 51 w0 wr v l) (he:∀x∈l,PatA wr x.A x.c x.p):∃A c,v=.slice A l.length c∧l.length≤c∧c≤9223372036854775807∧PatsX wr A l:=by
 rcases h.row encP_len with⟨rfl,h0⟩ | ⟨g,c,rfl,h1,h2,_,hr⟩
 ·subst h0
  exact⟨none,0,rfl,Nat.le_refl _,by omega,he,fun hne=>absurd rfl hne⟩
 ·exact⟨_,c,rfl,h1,h2,he,fun _=>⟨g,0,rfl,hr.lt,hr.cell⟩⟩
theorem step_append_ps {ops:Array Oper} {o:Oper} {a:Act} {w:World} {K:Act→World→Prop} {Q:Exit→Act→World→Prop} {E:Prop}
  (hg:o.guard=none) (s x:Operand) (hop:o.op=Op.call { callee:=Callee.builtin Builtin.append,args:=#[s,x],argTypes:=#[65,65] })
  (w0:World) (v:Value) (l m:List NewP) (hs:a.eval s=v) (hown:OwnX encP 2 51 w0 w v l) (A:Option Addr) (n c:Nat) (hx:a.eval x=.slice A n c) (hm:m.length=n)
  (hrd:ReadX encP 2 w A m) (hl:l.length+n≤1000000)
  (hK:∀v' w',OwnX encP 2 51 w0 w' v' (l++m)→w.grownBy w' v.ownBlock→K (a.put o.dst v') w') :
  if Region.wanted o (yielded ops a.tmps)=true then Oper.wp Tryz.prog o a w K Q else E:=by
 have hw:Region.wanted o (yielded ops a.tmps)=true:=by simp[Region.wanted,hg]
 rw[if_pos hw]
 obtain⟨i0,hi0,hz0,hz1,hz2⟩:=info_parts info_patE
 obtain⟨v',w',hr,h2,h3⟩:=run_append_xs (P:=Tryz.prog) (ty:=o.type) (c:=c) Tryz.underlying65 hi0 hz0 hz1 hz2 rfl (by decide) encP_len encP_one hown hm hrd (by omega) (by decide)
 unfold Oper.wp
 simp[execOp,hop,resolve,invoke,builtin,hs,hx,Result.andThen]
 rw[hr]
 exact hK v' w' h2 h3
theorem wpList_append_ps {ops:Array Oper} {rest:List Oper} {o:Oper} {a:Act} {Q:Exit→Act→World→Prop} {w:World} (hgd:o.guard=none) (s x:Operand)
  (ho:o.op=.call { callee:=.builtin .append,args:=#[s,x],argTypes:=#[65,65] }) (w0:World) (v:Value) (l m:List NewP) (hs:a.eval s=v) (hown:OwnX encP 2 51 w0 w v l) (A:Option Addr) (n c:Nat) (hx:a.eval x=.slice A n c) (hm:m.length=n)
  (hrd:ReadX encP 2 w A m) (hl:l.length+n≤1000000)
  (h:∀v' w',OwnX encP 2 51 w0 w' v' (l++m)→w.grownBy w' v.ownBlock→wpList Tryz.prog ops Q rest (a.put o.dst v') w'):wpList Tryz.prog ops Q (o :: rest) a w:=by
 refine wpList_plain hgd fun _ hK=>?_
 obtain⟨i0,hi0,hz0,hz1,hz2⟩:=info_parts info_patE
 obtain⟨v',w',hr,h2,h3⟩:=run_append_xs (P:=Tryz.prog) (ty:=o.type) (c:=c) Tryz.underlying65 hi0 hz0 hz1 hz2 rfl (by decide) encP_len encP_one hown hm hrd (by omega) (by decide)
 unfold Oper.wp execOp
 simp only[ho,resolve,invoke,builtin,Sem.run_bind,Sem.run_pure,Result.andThen_ok,List.map_toArray,List.map_cons,List.map_nil,hs,hx]
 rw[hr]
 exact hK _ _ (h v' w' h2 h3)
theorem PatsN.set {w:World} {B:Nat} {A:Option Addr} {c:Nat} {ps:List Pat} (h:PatsN w B A c ps) {p:Addr} (u:Value) (hp:p.block < B):PatsN (w.setCell p u) B A c ps:=by
 obtain⟨l,h1,h2,h3⟩:=h.ex
 refine⟨⟨l,h1,?_,fun x hx=>(h3 x hx).set u hp⟩,h.room,h.cap⟩
 rcases h2 with h2 | ⟨g,hA,hg,hr⟩
 ·exact .inl h2
 ·exact .inr ⟨g,hA,hg,hr.of_block (Deep.blk_setCell_other _ _ _ _ (by omega))⟩
theorem PatsN.mono {w:World} {B B':Nat} {A:Option Addr} {c:Nat} {ps:List Pat} (h:PatsN w B A c ps) (hB:B'≤B):PatsN w B' A c ps:=by
 obtain⟨l,h1,h2,h3⟩:=h.ex
 refine⟨⟨l,h1,?_,fun x hx=>(h3 x hx).mono hB⟩,h.room,h.cap⟩
 rcases h2 with h2 | ⟨g,hA,hg,hr⟩
 ·exact .inl h2
 ·exact .inr ⟨g,hA,Nat.le_trans hB hg,hr⟩
theorem PatsN.calm {w w':World} {B:Nat} {A:Option Addr} {c:Nat} {ps:List Pat} (h:PatsN w B A c ps) (hc:Calm w w'):PatsN w' B A c ps:=by
 obtain⟨l,h1,h2,h3⟩:=h.ex
 refine⟨⟨l,h1,?_,fun x hx=>(h3 x hx).calm hc⟩,h.room,h.cap⟩
 rcases h2 with h2 | ⟨g,hA,hg,hr⟩
 ·exact .inl h2
 ·exact .inr ⟨g,hA,hg,hr.calm hc⟩
theorem PatsN.own {w w':World} {B:Nat} {A:Option Addr} {c:Nat} {ps:List Pat} (h:PatsN w B A c ps) {B0 n K:Nat} {v:Value} {T:TypeId} {xs:List Value} (hT:51≠T) (hS:9≠T) (hown:w.ownsRow B0 T K v n xs) (hg:w.grownBy w' v.ownBlock):PatsN w' B A c ps:=by
 obtain⟨l,h1,h2,h3⟩:=h.ex
 refine⟨⟨l,h1,?_,fun x hx=>(h3 x hx).own hS hown hg⟩,h.room,h.cap⟩
 rcases h2 with h2 | ⟨g,hA,hgB,hr⟩
 ·exact .inl h2
 ·refine .inr ⟨g,hA,hgB,hr.grown hg fun e=>?_⟩
  obtain⟨cs,hh⟩:=hr.kind
  rcases hown.2 with⟨rfl,_⟩ | ⟨g',cap,cur,rfl,_,hgh,_⟩
  ·simp[Value.ownBlock] at e
  ·have e2:g=g':=by simpa[Value.ownBlock] using e
   rw[e2,hgh] at hh
   injection hh with hh
   injection hh with _ ht
   exact hT ht.symm
structure RegN (w:World) (B:Nat) (A:Option Addr) (c:Nat) (HA:Option Addr) (hc:Nat) (g:Reg):Prop where
 base:SmallN w B ⟨A,c,g.b⟩
 holes:PatsN w B HA hc g.hs
theorem RegN.calm {w w':World} {B:Nat} {A:Option Addr} {c:Nat} {HA:Option Addr} {hc:Nat} {g:Reg} (h:RegN w B A c HA hc g) (hcm:Calm w w'):RegN w' B A c HA hc g:=⟨h.base.calm hcm,h.holes.calm hcm⟩
theorem RegN.mono {w:World} {B B':Nat} {A:Option Addr} {c:Nat} {HA:Option Addr} {hc:Nat} {g:Reg} (h:RegN w B A c HA hc g) (hB:B'≤B):RegN w B' A c HA hc g:=⟨h.base.mono hB,h.holes.mono hB⟩
theorem RegN.set {w:World} {B:Nat} {A:Option Addr} {c:Nat} {HA:Option Addr} {hc:Nat} {g:Reg} (h:RegN w B A c HA hc g) {p:Addr} (u:Value) (hp:p.block < B):RegN (w.setCell p u) B A c HA hc g:=⟨h.base.set u hp,h.holes.set u hp⟩
theorem regN_of {w:World} {B:Nat} {A:Option Addr} {c:Nat} {HA:Option Addr} {hc:Nat} {b:Pat} {hs:List Pat} (h1:NewS w B A c b.parts) (h2:PatsN w B HA hc hs) (h3:b.parts.length≤16384) (h4:∀l∈b.parts,l.length≤16384):RegN w B A c HA hc ⟨b,hs⟩:=⟨⟨h1,h3,h4⟩,h2⟩
structure NewG where
 A:Option Addr
 c:Nat
 HA:Option Addr
 hc:Nat
 g:Reg
deriving Inhabited
def NewG.ok (w:World) (B:Nat) (x:NewG):Prop:=RegN w B x.A x.c x.HA x.hc x.g
theorem RegN.own {w w':World} {B:Nat} {A:Option Addr} {c:Nat} {HA:Option Addr} {hc:Nat} {g:Reg} (h:RegN w B A c HA hc g) {B0 n K:Nat} {v:Value} {T:TypeId} {xs:List Value} (hT:51≠T) (hS:9≠T) (hown:w.ownsRow B0 T K v n xs) (hg:w.grownBy w' v.ownBlock):RegN w' B A c HA hc g:=⟨h.base.own hS hown hg,h.holes.own hT hS hown hg⟩
end Go.Proofs.YtdcdabbepnahnaaGreatDoor
