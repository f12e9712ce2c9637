/- Small patterns of the call's own; the contracts of pattern.Meet. -/
import Derived.Laws.IdiomCopy
import Derived.Deep.Upon
import Derived.Maps.AppendAt
import Derived.IntWalk
import Derived.Lib.SliceRun
import Derived.Deep.RegionLaw
import Derived.Deep.RegionHeld3
import Derived.Test.YtcofdlipapnohaaGreatDoorZMeetW
import Derived.Test.YtcofdlipapnohaaGreatDoorZNewS
import Derived.Test.YtcofdlipapnohaaGreatDoorZWalkA
import Derived.Test.YtcofdlipapnohaaGreatDoorZRowX
import Derived.Test.YtcofdlipapnohaaGreatDoorZMeetL
import Derived.Test.YtcofdlipapnohaaGreatDoorZReduceL
set_option linter.unusedVariables false
set_option linter.unusedSimpArgs false
namespace Go.Proofs.YtcofdlipapnohaaGreatDoor
open Go Go.RowKit Sy
theorem join_a (ls:List Str) (A:Option Addr) (n c:Nat) (w:World) (h:StrsR w A ls) (h0:0 < ls.length) (hc:ls.length≤c) (hn:ls.length=n) :
  Calls Tryz.prog 221 #[.slice A n c,.string ⟨#[47]⟩] w fun e w'=>e=.returned (.string (bs (Lib.join ls [47])))∧Calm w w':=by
 subst hn
 obtain⟨b,o,rfl,hb,hk⟩:=h.at_ h0
 exact join_off_c ls b o c w hk hb hc (by have:=h.len;omega) (fun l hl=>by have:=h.each l hl;omega)
set_option maxHeartbeats 1000000 in
theorem text_c (p:Pat) (n c:Nat) (re:Bool) (A:Option Addr) (w:World) (hp:PatA w A c p) (h0:0 < p.parts.length) (hn:p.parts.length=n) (hre:p.rest=re) :
  Calls Tryz.prog 201 #[.agg #[.slice A n c,.bool re]] w fun e w'=>e=.returned (.string (bs (patText p)))∧Calm w w':=by
 obtain⟨w1,hw1⟩:∃w1,w1=w.alloc (.cells #[.slice A n c,.bool re] 65):=⟨_,rfl⟩
 have hc1:Calm w w1:=by rw[hw1];exact (Calm.refl w).alloc _
 have hs1:w.heap.size < w1.heap.size:=by rw[hw1];simp
 have k1:w1.cell? ⟨w.heap.size,1,none⟩=some (.bool re):=by rw[hw1];simp[go_sem]
 have hj:=join_a p.parts A n c w1 (hp.calm hc1).r h0 hp.room hn
 have hjl:=join47_len (ls:=p.parts) (by have:=hp.r.len;omega) (fun l hl=>by have:=hp.r.each l hl;omega)
 have hv:Hid (bs (patText p)=if re then ⟨#[47,47]⟩++bs (Lib.join p.parts [47])++⟨#[47,46,46,46]⟩ else ⟨#[47,47]⟩++bs (Lib.join p.parts [47])):=by
  show _=_
  unfold patText pathStr
  rw[hre]
  cases re
  ·simp only[Bool.false_eq_true,if_false,List.append_nil]
   exact bs_append [47,47] _
  ·simp only[if_true]
   rw[bs_append,show bs (47 :: 47 :: Lib.join p.parts [47])=⟨#[47,47]⟩++bs (Lib.join p.parts [47]) from bs_append [47,47] _]
   rfl
 have HW:=Lib.hid hw1
 have HC:=Lib.hid hc1
 have HK:=Lib.hid k1
 clear hw1 hc1 hp hn hre k1 h0
 generalize Lib.join p.parts [47]=J at hj hjl hv
 have hsz:=bs_size J
 cases re with
 |false=>
  go_enter Tryz.func201,Tryz.ntmps201
  go_wp2_with (go_at_call 221;rw[←HW.out];refine hj.mono ?_;rintro e w2 ⟨rfl,hc2⟩;have k1:=hc2.at_ HK.out hs1)
  go_ret
  exact⟨ret_str (by rw[hv.out];rfl),HC.out.trans hc2⟩
 |true=>
  go_enter Tryz.func201,Tryz.ntmps201
  go_wp2_with (go_at_call 221;rw[←HW.out];refine hj.mono ?_;rintro e w2 ⟨rfl,hc2⟩;have k1:=hc2.at_ HK.out hs1)
  go_ret
  exact⟨ret_str (by rw[hv.out];rfl),HC.out.trans hc2⟩
structure BoxP (w1:World) (B:Nat) (AX:Option Addr) (nx cx:Nat) (rx:Bool) (AY:Option Addr) (ny cy:Nat) (ry:Bool):Prop where
 size:B+2≤w1.heap.size
 x0:w1.cell? ⟨B,0,none⟩=some (.slice AX nx cx)
 x1:w1.cell? ⟨B,1,none⟩=some (.bool rx)
 y0:w1.cell? ⟨B+1,0,none⟩=some (.slice AY ny cy)
 y1:w1.cell? ⟨B+1,1,none⟩=some (.bool ry)
theorem BoxP.calm {w1 w2:World} {B:Nat} {AX:Option Addr} {nx cx:Nat} {rx:Bool} {AY:Option Addr} {ny cy:Nat} {ry:Bool} (h:BoxP w1 B AX nx cx rx AY ny cy ry) (hc:Calm w1 w2):BoxP w2 B AX nx cx rx AY ny cy ry:=
 have h0:B < w1.heap.size:=by have:=h.size;omega
 have h1:B+1 < w1.heap.size:=by have:=h.size;omega
 ⟨Nat.le_trans h.size hc.size,hc.at_ h.x0 h0,hc.at_ h.x1 h0,hc.at_ h.y0 h1,hc.at_ h.y1 h1⟩
set_option maxHeartbeats 4000000 in
theorem inside_c (p q:Pat) (v:Bool) (n m c c':Nat) (re rf:Bool) (A A':Option Addr) (w:World) (hp:PatA w A c p) (hq:PatA w A' c' q) (hn:p.parts.length=n) (hm:q.parts.length=m) (hre:p.rest=re) (hrf:q.rest=rf) (hv:insideP p q=v) :
  Calls Tryz.prog 207 #[.agg #[.slice A n c,.bool re],.agg #[.slice A' m c',.bool rf]] w fun e w'=>e=.returned (.bool v)∧Calm w w':=by
 have hnl:=hp.r.len
 have hml:=hq.r.len
 rw[hn] at hnl
 rw[hm] at hml
 obtain⟨w1,hw1⟩:∃w1,w1=(w.alloc (.cells #[.slice A n c,.bool re] 65)).alloc (.cells #[.slice A' m c',.bool rf] 65):=⟨_,rfl⟩
 have hc1:Calm w w1:=by rw[hw1];exact ((Calm.refl w).alloc _).alloc _
 have hbox:BoxP w1 w.heap.size A n c re A' m c' rf:=by
  rw[hw1]
  exact⟨by simp,by simp[go_sem],by simp[go_sem],by simp[go_sem],by simp[go_sem]⟩
 have HLen:Hid (lenIn p q=if rf then (if re then decide (m≤n) else decide (m < n)) else (!re && n == m)):=by
  show lenIn p q=_
  unfold lenIn
  rw[hn,hm,hre,hrf]
 have hlt0:w.heap.size < w1.heap.size:=by have:=hbox.size;omega
 have hlt1:w.heap.size+1 < w1.heap.size:=by have:=hbox.size;omega
 have q0:=fun W:CalmTo w1=>W.cell hbox.x0 hlt0
 have q1:=fun W:CalmTo w1=>W.cell hbox.x1 hlt0
 have q2:=fun W:CalmTo w1=>W.cell hbox.y0 hlt1
 have q3:=fun W:CalmTo w1=>W.cell hbox.y1 hlt1
 have HW:=Lib.hid hw1
 have HC:=Lib.hid hc1
 have HB:=Lib.hid hbox
 have HN:=Lib.hid (And.intro hn hm)
 have HP:=Lib.hid (hp.calm hc1)
 have HQ:=Lib.hid (hq.calm hc1)
 have HV:=Lib.hid hv
 clear hw1 hc1 hbox hn hm hre hrf hp hq hv hlt0 hlt1
 go_enter Tryz.func207,Tryz.ntmps207
 go_wp2_with fail
 rw[←HW.out]
 refine wp_region_calm (by kernel_rfl) (by kernel_rfl) ?_
 repeat (go_big_quiet_step (fail))
 refine wpQuiet_nil ?_
 intro w2 hc2
 have HB2:=Lib.hid (HB.out.calm hc2)
 have HC2:=Lib.hid hc2
 have x0:=HB2.out.x0
 have x1:=HB2.out.x1
 have y0:=HB2.out.y0
 have y1:=HB2.out.y1
 clear q0 q1 q2 q3 hc2
 by_cases hL:lenIn p q=true
 ·have hmn:m≤n:=by
   have:=HLen.out
   rw[hL] at this
   cases rf <;> cases re <;> simp at this <;> omega
  have h3:rf=false→re=false∧n=m:=fun e=>by
   have:=HLen.out
   rw[hL,e] at this
   simpa using this
  have h4:rf=true→re=false→m < n:=fun e e2=>by
   have:=HLen.out
   rw[hL,e,e2] at this
   simpa using this
  have HL:=Lib.hid hL
  clear hL
  have key:(rf=false∧re=false∧m=n)∨(rf=true∧re=false∧m < n)∨(rf=true∧re=true):=by
   cases rf
   ·exact .inl ⟨rfl,(h3 rfl).1,(h3 rfl).2.symm⟩
   ·cases re
    ·exact .inr (.inl ⟨rfl,rfl,h4 rfl rfl⟩)
    ·exact .inr (.inr ⟨rfl,rfl⟩)
  clear h3 h4
  have HMn:=Lib.hid hmn
  rcases key with⟨rfl,rfl,hmn2⟩ | ⟨rfl,rfl,hlt⟩ | ⟨rfl,rfl⟩
  all_goals
   try (have hb1:((n:Int) != (m:Int))=false:=by (simp;omega))
   try clear hmn2
   go_wp2_with fail
   go_loopw [50] (fun u wr=>∃k:Nat,k≤m∧u=.int .i64 k∧Hid (∀j,j < k→inside (pAt p j) (pAt q j)=true)∧Hid (Calm w1 wr)) (fun u _=>m - (intOf u).toNat)
   case atStart=>exact⟨0,Nat.zero_le _,rfl,fun j hj=>absurd hj (Nat.not_lt_zero _),HC2.out⟩
   case round=>
    obtain⟨k,hk,rfl,HI,HCr⟩:=hrel
    have HBr:=Lib.hid (HB.out.calm HCr.out)
    have x0:=HBr.out.x0
    by_cases hkm:k < m
    ·have hmn:=HMn.out
     have hkn:k < n:=by omega
     obtain⟨b,o,y,rfl,hb,hy,hyl,hcy⟩:=(HQ.out.calm HCr.out).r.get (k:=k) (by rw[HN.out.2];exact hkm)
     obtain⟨b',o',x,rfl,hb',hx,hxl,hcx⟩:=(HP.out.calm HCr.out).r.get (k:=k) (by rw[HN.out.1];exact hkn)
     obtain⟨z,hz⟩:∃z,inside x y=z:=⟨_,rfl⟩
     have hcall:=within_v x y z wr hxl hyl hz
     have hxe:x=pAt p k:=by
      rw[pAt_get (by rw[HN.out.1];exact hkn)] at hx
      exact (Option.some.inj hx).symm
     have hye:y=pAt q k:=by
      rw[pAt_get (by rw[HN.out.2];exact hkm)] at hy
      exact (Option.some.inj hy).symm
     have HZ:Hid (inside (pAt p k) (pAt q k)=z):=by
      show _=_
      rw[←hxe,←hye]
      exact hz
     clear hx hy hxe hye hz
     cases z with
     |true=>
      go_wp2_with fail
      refine hcall.mono ?_
      rintro e w3 ⟨rfl,hc3⟩
      go_wp2
      go_roundw
      case rel=>
       refine⟨k+1,by omega,by go_num,fun j hj=>?_,HCr.out.trans hc3⟩
       by_cases e:j=k
       ·rw[e]
        exact HZ.out
       ·exact HI.out j (by omega)
      case measure=>simp[intOf];omega
     |false=>
      have hE:Hid (v=false):=by
       show v=false
       rw[←HV.out,insideP,Bool.and_eq_false_iff]
       refine .inr ?_
       rw[List.all_eq_false]
       exact⟨k,List.mem_range.2 (by rw[HN.out.2];exact hkm),by rw[HZ.out];simp⟩
      go_wp2_with fail
      refine hcall.mono ?_
      rintro e w3 ⟨rfl,hc3⟩
      go_wp2
      go_ret
      exact⟨ret_bool (by rw[hE.out]),HC.out.trans (HCr.out.trans hc3)⟩
    ·obtain rfl:k=m:=by omega
     have hE:Hid (v=true):=by
      show v=true
      rw[←HV.out,insideP,HL.out,Bool.true_and,List.all_eq_true]
      exact fun j hj=>HI.out j (by have:=List.mem_range.1 hj;rw[HN.out.2] at this;exact this)
     go_wp2
     go_ret
     exact⟨ret_bool (by rw[hE.out]),HC.out.trans HCr.out⟩
 ·have hLf:lenIn p q=false:=by simpa using hL
  have hE:Hid (v=false):=by
   show v=false
   rw[←HV.out,insideP,hLf]
   rfl
  have key:(rf=false∧re=true)∨(rf=false∧re=false∧n≠m)∨(rf=true∧n < m)∨(rf=true∧re=false∧n=m):=by
   have h:=HLen.out
   rw[hLf] at h
   cases rf
   ·cases re
    ·refine .inr (.inl ⟨rfl,rfl,fun e=>?_⟩)
     rw[e] at h
     simp at h
    ·exact .inl ⟨rfl,rfl⟩
   ·cases re
    ·have h2:¬m < n:=by simpa using h.symm
     by_cases h3:n < m
     ·exact .inr (.inr (.inl ⟨rfl,h3⟩))
     ·exact .inr (.inr (.inr ⟨rfl,rfl,by omega⟩))
    ·have h2:¬m≤n:=by simpa using h.symm
     exact .inr (.inr (.inl ⟨rfl,by omega⟩))
  clear hL hLf
  rcases key with⟨rfl,rfl⟩ | ⟨rfl,rfl,hne⟩ | ⟨rfl,hlt⟩ | ⟨rfl,rfl,rfl⟩
  ·go_wp2
   go_ret
   exact⟨ret_bool (by rw[hE.out]),HC.out.trans HC2.out⟩
  ·have hb1:((n:Int) != (m:Int))=true:=by simp;omega
   clear hne
   go_wp2
   go_ret
   exact⟨ret_bool (by rw[hE.out]),HC.out.trans HC2.out⟩
  ·by_cases hre:re=true
   ·subst hre
    go_wp2
    go_ret
    exact⟨ret_bool (by rw[hE.out]),HC.out.trans HC2.out⟩
   ·obtain rfl:re=false:=by simpa using hre
    go_wp2
    go_ret
    exact⟨ret_bool (by rw[hE.out]),HC.out.trans HC2.out⟩
  ·go_wp2
   go_ret
   exact⟨ret_bool (by rw[hE.out]),HC.out.trans HC2.out⟩
def CopyEnd (p:Pat) (B:Nat) (e:Ending) (w':World):Prop:=∃A c,e=.returned (.agg #[.slice A p.parts.length c,.bool p.rest])∧NewS w' B A c p.parts
set_option maxHeartbeats 2000000 in
theorem copy_c (p:Pat) (A:Option Addr) (c:Nat) (w:World) (hr:StrsU w A p.parts) :
  Calls Tryz.prog 177 #[.agg #[.slice A p.parts.length c,.bool p.rest]] w fun e w'=>CopyEnd p w.heap.size e w'∧Calm w w':=by
 obtain⟨n,hn⟩:∃n,p.parts.length=n:=⟨_,rfl⟩
 obtain⟨re,hre⟩:∃re,p.rest=re:=⟨_,rfl⟩
 obtain⟨w1,hw1⟩:∃w1,w1=(w.alloc (.cells #[.slice A n c,.bool re] 65)).alloc (.cells #[.slice none 0 0,.bool false] 65):=⟨_,rfl⟩
 have hc1:Calm w w1:=by rw[hw1];exact ((Calm.refl w).alloc _).alloc _
 have hz1:w1.heap.size=w.heap.size+2:=by rw[hw1];simp
 have k0:w1.cell? ⟨w.heap.size,0,none⟩=some (.slice A n c):=by rw[hw1];simp
 have k1:w1.cell? ⟨w.heap.size,1,none⟩=some (.bool re):=by rw[hw1];simp
 have k2:w1.cell? ⟨w.heap.size+1,0,none⟩=some (.slice none 0 0):=by rw[hw1];simp
 have k3:w1.cell? ⟨w.heap.size+1,1,none⟩=some (.bool false):=by rw[hw1];simp
 have f0:w1.frozen? ⟨w.heap.size+1,0,none⟩=false:=by rw[hw1];simp
 have f1:w1.frozen? ⟨w.heap.size+1,1,none⟩=false:=by rw[hw1];simp
 have KC:Hid (∀W,Calm w1 W→Calls Tryz.prog 118 #[.slice A n c] W fun e w'=>(∃A2 c2,e=.returned (.slice A2 n c2)∧NewS w' W.heap.size A2 c2 p.parts)∧Calm W w'):=fun W hW=>by
  have:=clone_c p.parts A c W ((hr.calm hc1).calm hW)
  unfold CloneEnd at this
  rw[hn] at this
  exact this
 have HW:=Lib.hid hw1
 have HC:=Lib.hid hc1
 have HN:=Lib.hid (And.intro hn hre)
 have HK:=Lib.hid (And.intro k0 (And.intro k1 (And.intro k2 (And.intro k3 (And.intro f0 (And.intro f1 hz1))))))
 rw[hn,hre]
 clear hw1 hc1 hr hn hre hz1
 go_enter Tryz.func177,Tryz.ntmps177
 go_wp2
 rw[←HW.out]
 go_region_with (go_at_call 118;refine (KC.out _ (by first | exact Calm.refl _ | exact (Calm.refl _).drewN _ | exact Below.drew (Calm.refl _))).mono ?_;rintro e w2 ⟨⟨A2,c2,rfl,hns⟩,hc2⟩;have hcx:Calm w1 w2:=Calm.trans (by first | exact Calm.refl _ | exact (Calm.refl _).drewN _ | exact Below.drew (Calm.refl _)) hc2;have z1:=hcx.at_ HK.out.2.1 (by rw[HK.out.2.2.2.2.2.2];omega);have z2:=hcx.at_ HK.out.2.2.1 (by rw[HK.out.2.2.2.2.2.2];omega);have z3:=hcx.at_ HK.out.2.2.2.1 (by rw[HK.out.2.2.2.2.2.2];omega);have z4:=(hcx.frozen (p:=⟨w.heap.size+1,0,none⟩) (by rw[HK.out.2.2.2.2.2.2];show w.heap.size+1 < _;omega)).trans HK.out.2.2.2.2.1;have z5:=(hcx.frozen (p:=⟨w.heap.size+1,1,none⟩) (by rw[HK.out.2.2.2.2.2.2];show w.heap.size+1 < _;omega)).trans HK.out.2.2.2.2.2.1)
 all_goals
  have hc3:Calm w ((w2.setCell ⟨w.heap.size+1,0,none⟩ (.slice A2 n c2)).setCell ⟨w.heap.size+1,1,none⟩ (.bool re)):=Below.setCell (Below.setCell (HC.out.trans hcx) (by show w.heap.size≤w.heap.size+1;omega) _) (by show w.heap.size≤w.heap.size+1;omega) _
  have hn3:=((hns.set (p:=⟨w.heap.size+1,0,none⟩) (.slice A2 n c2) (by show w.heap.size+1 < _;have:=HK.out.2.2.2.2.2.2;simp;omega)).set (p:=⟨w.heap.size+1,1,none⟩) (.bool re) (by show w.heap.size+1 < _;have:=HK.out.2.2.2.2.2.2;simp;omega))
  have hn4:=hn3.mono (show w.heap.size≤_ by have:=HK.out.2.2.2.2.2.2;simp;omega)
  clear hns hn3 KC k0 k1 k2 k3 f0 f1 hc2 hcx
  go_wp2
  refine bodyPost_ret (v:=.agg #[.slice A2 n c2,.bool re]) ?_ rfl ⟨⟨A2,c2,by rw[HN.out.1,HN.out.2],hn4⟩,hc3⟩
  rw[results_cell1 rfl]
  go_simp
theorem PatsR.get {w:World} {A:Option Addr} {ps:List Pat} (h:PatsR w A ps) {k:Nat} (hk:k < ps.length):∃b o p Ak ck,A=some ⟨b,o,none⟩∧b < w.heap.size∧ps[k]?=some p∧w.cell? ⟨b,o+k * 2,none⟩=some (.slice Ak p.parts.length ck)∧w.cell? ⟨b,o+k * 2+1,none⟩=some (.bool p.rest)∧p.parts.length≤ck∧ck≤9223372036854775807∧StrsR w Ak p.parts:=by
 obtain⟨b,o,hA,hb,hc⟩:=h.at_ (by omega)
 obtain⟨Ak,ck,h1,h2,h3,h4,h5⟩:=hc k _ (List.getElem?_eq_getElem hk)
 exact⟨b,o,ps[k],Ak,ck,hA,hb,List.getElem?_eq_getElem hk,h1,h2,h3,h4,h5⟩
structure SmallN (w:World) (B:Nat) (x:NewP):Prop where
 new:NewS w B x.A x.c x.p.parts
 few:x.p.parts.length≤16384
 each:∀l∈x.p.parts,l.length≤16384
theorem SmallN.a {w:World} {B:Nat} {x:NewP} (h:SmallN w B x):PatA w x.A x.c x.p:=⟨h.new.u.toR h.few h.each,h.new.room,h.new.cap⟩
theorem SmallN.calm {w w':World} {B:Nat} {x:NewP} (h:SmallN w B x) (hc:Calm w w'):SmallN w' B x:=⟨h.new.calm hc,h.few,h.each⟩
theorem SmallN.own {w w':World} {B:Nat} {x:NewP} (h:SmallN w B x) {B0 n K:Nat} {v:Value} {T:TypeId} {xs:List Value} (hT:9≠T) (hown:w.ownsRow B0 T K v n xs) (hg:w.grownBy w' v.ownBlock):SmallN w' B x:=⟨h.new.grown hT hown hg,h.few,h.each⟩
theorem SmallN.mono {w:World} {B B':Nat} {x:NewP} (h:SmallN w B x) (hB:B'≤B):SmallN w B' x:=⟨h.new.mono hB,h.few,h.each⟩
theorem OwnX.shape {α:Type} {enc:α→List Value} {K:Nat} {T:TypeId} {w0 w:World} {v:Value} {l:List α} (h:OwnX enc K T w0 w v l):∃A n c,v=.slice A n c:=by
 rcases h.own.2 with⟨rfl,_⟩ | ⟨g,cap,cur,rfl,_⟩
 ·exact⟨_,_,_,rfl⟩
 ·exact⟨_,_,_,rfl⟩
theorem SmallN.set {w:World} {B:Nat} {x:NewP} (h:SmallN w B x) {p:Addr} (u:Value) (hp:p.block < B):SmallN (w.setCell p u) B x:=⟨h.new.set u hp,h.few,h.each⟩
set_option maxHeartbeats 4000000 in
theorem meet_far (p q:Pat) (A A':Option Addr) (c c':Nat) (w:World) (hp:PatA w A c p) (hq:PatA w A' c' q) (ep:patErr p=0) (eq:patErr q=0) (hcm:compat p q=false) :
  Calls Tryz.prog 168 #[.agg #[.slice A p.parts.length c,.bool p.rest],.agg #[.slice A' q.parts.length c',.bool q.rest]] w fun e w'=>MeetEnd p q w.heap.size e w'∧Calm w w':=by
 obtain⟨n,hn⟩:∃n,p.parts.length=n:=⟨_,rfl⟩
 obtain⟨m,hm⟩:∃m,q.parts.length=m:=⟨_,rfl⟩
 obtain⟨re,hre⟩:∃re,p.rest=re:=⟨_,rfl⟩
 obtain⟨rf,hrf⟩:∃rf,q.rest=rf:=⟨_,rfl⟩
 have hnl:=hp.r.len
 have hml:=hq.r.len
 obtain⟨w1,hw1⟩:∃w1,w1=((w.alloc (.cells #[.slice A n c,.bool re] 65)).alloc (.cells #[.slice A' m c',.bool rf] 65)).alloc (.cells #[.slice none 0 0,.bool false] 65):=⟨_,rfl⟩
 have hc1:Calm w w1:=by rw[hw1];exact (((Calm.refl w).alloc _).alloc _).alloc _
 have hbox:Box3 w1 w.heap.size A n c re A' m c' rf:=by
  rw[hw1]
  exact⟨by simp,by simp[go_sem],by simp[go_sem],by simp[go_sem],by simp[go_sem],by simp[go_sem],by simp[go_sem],fun o=>by simp[go_sem],fun o=>by simp[go_sem],fun o=>by simp[go_sem]⟩
 have KP:Hid (∀W,Calm w1 W→Calls Tryz.prog 197 #[.agg #[.slice A n c,.bool re]] W fun e w'=>e=.returned (.int .i64 0)∧Calm W w'):=fun W hW=>checkA_c p n c re A W ((hp.calm hc1).calm hW) ep hn hre
 have KQ:Hid (∀W,Calm w1 W→Calls Tryz.prog 197 #[.agg #[.slice A' m c',.bool rf]] W fun e w'=>e=.returned (.int .i64 0)∧Calm W w'):=fun W hW=>checkA_c q m c' rf A' W ((hq.calm hc1).calm hW) eq hm hrf
 rw[hn] at hnl
 rw[hm] at hml
 have KM:Hid (∀W,Calls Tryz.prog 199 #[.int .i64 n,.bool re,.int .i64 m,.bool rf] W fun e w'=>e=.returned (.bool false)∧W=w'):=fun W=>compat_c n m re rf false W (by omega) (by omega) (by rw[←hn,←hm,←hre,←hrf];exact hcm)
 have hE:=Lib.hid (meetL_far hcm)
 rw[hn,hm,hre,hrf]
 have HW:=Lib.hid hw1
 have HC:=Lib.hid hc1
 have HB:=Lib.hid hbox
 clear hw1 hc1 hbox hn hm hre hrf hp hq ep eq hcm
 go_enter Tryz.func168,Tryz.ntmps168
 go_wp2_with fail
 rw[←HW.out]
 refine (KP.out w1 (Calm.refl _)).mono ?_
 rintro e w2 ⟨rfl,hc2⟩
 have b2:=HB.out.calm hc2
 have y0:=b2.y0
 have y1:=b2.y1
 clear b2
 go_wp2_with fail
 refine (KQ.out w2 hc2).mono ?_
 rintro e w3 ⟨rfl,hc3⟩
 have HB3:=Lib.hid (HB.out.calm (hc2.trans hc3))
 have x0:=HB3.out.x0
 have x1:=HB3.out.x1
 have y0:=HB3.out.y0
 have y1:=HB3.out.y1
 have z0:=HB3.out.z0
 have z1:=HB3.out.z1
 have f0:=HB3.out.fz 0
 have f1:=HB3.out.fz 1
 go_wp2_with fail
 refine (KM.out w3).mono ?_
 rintro e w4 ⟨rfl,rfl⟩
 have hc8:Calm w ((w3.setCell ⟨w.heap.size+2,0,none⟩ (.slice none 0 0)).setCell ⟨w.heap.size+2,1,none⟩ (.bool false)):=Below.setCell (Below.setCell (HC.out.trans (hc2.trans hc3)) (by show w.heap.size≤w.heap.size+2;omega) _) (by show w.heap.size≤w.heap.size+2;omega) _
 clear hc2 hc3
 go_wp2
 refine bodyPost_ret (v:=.tuple #[.agg #[.slice none 0 0,.bool false],.bool false]) ?_ rfl ⟨.inr ⟨hE.out,rfl⟩,hc8⟩
 rw[results_cell_slot rfl]
 go_simp
theorem meet_c (p q:Pat) (A A':Option Addr) (c c':Nat) (w:World) (hp:PatA w A c p) (hq:PatA w A' c' q) (ep:patErr p=0) (eq:patErr q=0) :
  Calls Tryz.prog 168 #[.agg #[.slice A p.parts.length c,.bool p.rest],.agg #[.slice A' q.parts.length c',.bool q.rest]] w fun e w'=>MeetEnd p q w.heap.size e w'∧Calm w w':=by
 rcases hcm:compat p q with _ | _
 ·exact meet_far p q A A' c c' w hp hq ep eq hcm
 rcases Nat.lt_or_ge p.parts.length q.parts.length with h | h
 ·exact meet_short p q A A' c c' w hp hq ep eq h hcm
 ·exact meet_long p q A A' c c' w hp hq ep eq h hcm
theorem meet_yes (p q m:Pat) (A A':Option Addr) (c c':Nat) (w:World) (hp:PatA w A c p) (hq:PatA w A' c' q) (ep:patErr p=0) (eq:patErr q=0) (hm:meetP p q=some m) :
  Calls Tryz.prog 168 #[.agg #[.slice A p.parts.length c,.bool p.rest],.agg #[.slice A' q.parts.length c',.bool q.rest]] w fun e w'=>(∃A2 c2,e=.returned (.tuple #[.agg #[.slice A2 m.parts.length c2,.bool m.rest],.bool true])∧SmallN w' w.heap.size ⟨A2,c2,m⟩)∧Calm w w':=by
 rw[meetP,if_pos ⟨ep,eq⟩] at hm
 refine (meet_c p q A A' c c' w hp hq ep eq).mono fun e w' ⟨h1,h2⟩=>⟨?_,h2⟩
 rcases h1 with⟨m',A2,c2,h3,h4,h5⟩ | ⟨h3,_⟩
 ·rw[hm] at h3
  obtain rfl:m=m':=Option.some.inj h3
  have hok:=(patErr_iff.1 (meetL_good ep eq hm)).2.2.1
  refine⟨A2,c2,h4,h5,by show m.parts.length≤16384;omega,fun x hx=>?_⟩
  obtain⟨rfl,_,_⟩:=meetL_some hm
  obtain⟨j,hj,rfl⟩:=List.mem_map.1 hx
  have hjm:=List.mem_range.1 hj
  have hat:∀(r:Pat),(∀l∈r.parts,l.length≤16384)→(pAt r j).length≤16384:=fun r hr=>by
   by_cases hjr:j < r.parts.length
   ·exact hr _ (List.mem_of_getElem? (pAt_get hjr))
   ·rw[pAt_out (by omega)]
    decide
  rcases mPart_or (pAt p j) (pAt q j) with e | e <;> rw[e]
  ·exact hat p hp.r.each
  ·exact hat q hq.r.each
 ·rw[hm] at h3
  cases h3
theorem meet_no (p q:Pat) (A A':Option Addr) (c c':Nat) (w:World) (hp:PatA w A c p) (hq:PatA w A' c' q) (ep:patErr p=0) (eq:patErr q=0) (hm:meetP p q=none) :
  Calls Tryz.prog 168 #[.agg #[.slice A p.parts.length c,.bool p.rest],.agg #[.slice A' q.parts.length c',.bool q.rest]] w fun e w'=>e=.returned (.tuple #[.agg #[.slice none 0 0,.bool false],.bool false])∧Calm w w':=by
 rw[meetP,if_pos ⟨ep,eq⟩] at hm
 refine (meet_c p q A A' c c' w hp hq ep eq).mono fun e w' ⟨h1,h2⟩=>⟨?_,h2⟩
 rcases h1 with⟨m',A2,c2,h3,h4,h5⟩ | ⟨_,h4⟩
 ·rw[hm] at h3
  cases h3
 ·exact h4
structure PatsN (w:World) (B:Nat) (A:Option Addr) (c:Nat) (ps:List Pat):Prop where
 ex:∃l:List NewP,l.map (·.p)=ps∧((A=none∧ps=[])∨∃g,A=some ⟨g,0,none⟩∧B≤g∧RowX encP 2 65 w g 0 l)∧∀x∈l,SmallN w B x
 room:ps.length≤c
 cap:c≤9223372036854775807
end Go.Proofs.YtcofdlipapnohaaGreatDoor
