/- Walks: the reference's Text, Within. -/
import Derived.Test.YtdcdabbepnahnaaGreatDoorZRowG
import Derived.Test.YtdcdabbepnahnaaGreatDoorZRefA
set_option linter.unusedVariables false
set_option linter.unusedSimpArgs false
namespace Go.Proofs.YtdcdabbepnahnaaGreatDoor
open Go Go.RowKit Sy
set_option maxHeartbeats 1000000 in
theorem rtext_c (p:Pat) (n c:Nat) (re:Bool) (A:Option Addr) (w:World) (hp:PatA w A c p) (h0:0 < p.parts.length) (hn:p.parts.length=n) (hre:p.rest=re) :
  Calls Tryz.prog 98 #[.agg #[.slice A n c,.bool re]] w fun e w'=>e=.returned (.string (bs (patText p)))∧Calm w w':=by
 obtain⟨w1,hw1⟩:∃w1,w1=w.alloc (.cells #[.slice A n c,.bool re] 51):=⟨_,rfl⟩
 have hc1:Calm w w1:=by rw[hw1];exact (Calm.refl w).alloc _
 have hs1:w.heap.size < w1.heap.size:=by rw[hw1];simp
 have k1:w1.cell? ⟨w.heap.size,1,none⟩=some (.bool re):=by rw[hw1];simp[go_sem]
 have hj:=join_a p.parts A n c w1 (hp.calm hc1).r h0 hp.room hn
 have hjl:=join47_len (ls:=p.parts) (by have:=hp.r.len;omega) (fun l hl=>by have:=hp.r.each l hl;omega)
 have hv:Hid (bs (patText p)=if re then ⟨#[47,47]⟩++bs (Lib.join p.parts [47])++⟨#[47,46,46,46]⟩ else ⟨#[47,47]⟩++bs (Lib.join p.parts [47])):=by
  show _=_
  unfold patText pathStr
  rw[hre]
  cases re
  ·simp only[Bool.false_eq_true,if_false,List.append_nil]
   exact bs_append [47,47] _
  ·simp only[if_true]
   rw[bs_append,show bs (47 :: 47 :: Lib.join p.parts [47])=⟨#[47,47]⟩++bs (Lib.join p.parts [47]) from bs_append [47,47] _]
   rfl
 have HW:=Lib.hid hw1
 have HC:=Lib.hid hc1
 have HK:=Lib.hid k1
 clear hw1 hc1 hp hn hre k1 h0
 generalize Lib.join p.parts [47]=J at hj hjl hv
 have hsz:=bs_size J
 cases re with
 |false=>
  go_enter Tryz.func98,Tryz.ntmps98
  go_wp2_with (go_at_call 120;rw[←HW.out];refine hj.mono ?_;rintro e w2 ⟨rfl,hc2⟩;have k1:=hc2.at_ HK.out hs1)
  go_ret
  exact⟨ret_str (by rw[hv.out];rfl),HC.out.trans hc2⟩
 |true=>
  go_enter Tryz.func98,Tryz.ntmps98
  go_wp2_with (go_at_call 120;rw[←HW.out];refine hj.mono ?_;rintro e w2 ⟨rfl,hc2⟩;have k1:=hc2.at_ HK.out hs1)
  go_ret
  exact⟨ret_str (by rw[hv.out];rfl),HC.out.trans hc2⟩
set_option maxHeartbeats 4000000 in
theorem rwithin_c (p q:Pat) (v:Bool) (n m c c':Nat) (re rf:Bool) (A A':Option Addr) (w:World) (hp:PatA w A c p) (hq:PatA w A' c' q) (ep:patErr p=0) (eq:patErr q=0) (hn:p.parts.length=n) (hm:q.parts.length=m) (hre:p.rest=re) (hrf:q.rest=rf) (hv:insideP p q=v) :
  Calls Tryz.prog 99 #[.agg #[.slice A n c,.bool re],.agg #[.slice A' m c',.bool rf]] w fun e w'=>e=.returned (.bool v)∧Calm w w':=by
 have hnl:=hp.r.len
 have hml:=hq.r.len
 rw[hn] at hnl
 rw[hm] at hml
 obtain⟨w1,hw1⟩:∃w1,w1=(w.alloc (.cells #[.slice A n c,.bool re] 51)).alloc (.cells #[.slice A' m c',.bool rf] 51):=⟨_,rfl⟩
 have hc1:Calm w w1:=by rw[hw1];exact ((Calm.refl w).alloc _).alloc _
 have hbox:BoxP w1 w.heap.size A n c re A' m c' rf:=by
  rw[hw1]
  exact⟨by simp,by simp[go_sem],by simp[go_sem],by simp[go_sem],by simp[go_sem]⟩
 have HLen:Hid (lenIn p q=if rf then (if re then decide (m≤n) else decide (m < n)) else (!re && n == m)):=by
  show lenIn p q=_
  unfold lenIn
  rw[hn,hm,hre,hrf]
 have K1:=rcheckA_c p n c re A w1 (hp.calm hc1) ep hn hre
 have K2:Hid (∀W,Calm w1 W→Calls Tryz.prog 94 #[.agg #[.slice A' m c',.bool rf]] W fun e w'=>e=.returned (.int .i64 0)∧Calm W w'):=fun W hW=>rcheckA_c q m c' rf A' W ((hq.calm hc1).calm hW) eq hm hrf
 have HOk:Hid ((∀x∈p.parts,partOk x=true)∧∀x∈q.parts,partOk x=true):=⟨(patErr_iff.1 ep).2.2.2.2,(patErr_iff.1 eq).2.2.2.2⟩
 have HW:=Lib.hid hw1
 have HC:=Lib.hid hc1
 have HB:=Lib.hid hbox
 have HN:=Lib.hid (And.intro hn hm)
 have HP:=Lib.hid (hp.calm hc1)
 have HQ:=Lib.hid (hq.calm hc1)
 have HV:=Lib.hid hv
 clear hw1 hc1 hbox hn hm hre hrf hp hq hv ep eq
 go_enter Tryz.func99,Tryz.ntmps99
 go_wp2_with fail
 rw[←HW.out]
 refine K1.mono ?_
 rintro e w2 ⟨rfl,hc2⟩
 have x0:=(HB.out.calm hc2).x0
 have x1:=(HB.out.calm hc2).x1
 have y0:=(HB.out.calm hc2).y0
 have y1:=(HB.out.calm hc2).y1
 have HC2:=Lib.hid hc2
 clear hc2 K1
 go_wp2_with fail
 refine (K2.out w2 HC2.out).mono ?_
 rintro e w3 ⟨rfl,hc3⟩
 have HC3:=Lib.hid (HC2.out.trans hc3)
 have HB3:=Lib.hid (HB.out.calm HC3.out)
 clear x0 x1 y0 y1 hc3 K2
 have x0:=HB3.out.x0
 have x1:=HB3.out.x1
 have y0:=HB3.out.y0
 have y1:=HB3.out.y1
 by_cases hL:lenIn p q=true
 ·have hmn:m≤n:=by
   have:=HLen.out
   rw[hL] at this
   cases rf <;> cases re <;> simp at this <;> omega
  have h3:rf=false→re=false∧n=m:=fun e=>by
   have:=HLen.out
   rw[hL,e] at this
   simpa using this
  have h4:rf=true→re=false→m < n:=fun e e2=>by
   have:=HLen.out
   rw[hL,e,e2] at this
   simpa using this
  have HL:=Lib.hid hL
  clear hL
  have key:(rf=false∧re=false∧¬m < n)∨(rf=true∧re=false∧m < n)∨(rf=true∧re=true∧m < n)∨(rf=true∧re=true∧¬m < n):=by
   cases rf
   ·exact .inl ⟨rfl,(h3 rfl).1,by have:=(h3 rfl).2;omega⟩
   ·cases re
    ·exact .inr (.inl ⟨rfl,rfl,h4 rfl rfl⟩)
    ·by_cases h:m < n
     ·exact .inr (.inr (.inl ⟨rfl,rfl,h⟩))
     ·exact .inr (.inr (.inr ⟨rfl,rfl,h⟩))
  clear h3 h4
  have HMn:=Lib.hid hmn
  rcases key with⟨rfl,rfl,hb3⟩ | ⟨rfl,rfl,hb3⟩ | ⟨rfl,rfl,hb3⟩ | ⟨rfl,rfl,hb3⟩
  all_goals
   first
    |have hb1:((n:Int) == (m:Int))=false:=by (simp;omega)
    |have hb1:((n:Int) == (m:Int))=true:=by (simp;omega)
   have hb2:¬n < m:=by omega
   go_wp2_with fail
   go_loopw [59] (fun u wr=>∃k:Nat,k≤m∧u=.int .i64 k∧Hid (∀j,j < k→inside (pAt p j) (pAt q j)=true)∧Hid (Calm w1 wr)) (fun u _=>m - (intOf u).toNat)
   case atStart=>exact⟨0,Nat.zero_le _,rfl,fun j hj=>absurd hj (Nat.not_lt_zero _),HC3.out⟩
   case round=>
    obtain⟨k,hk,rfl,HI,HCr⟩:=hrel
    have HBr:=Lib.hid (HB.out.calm HCr.out)
    have x0:=HBr.out.x0
    by_cases hkm:k < m
    ·have hmn:=HMn.out
     have hkn:k < n:=by omega
     obtain⟨b,o,y,rfl,hb,hy,hyl,hcy⟩:=(HQ.out.calm HCr.out).r.get (k:=k) (by rw[HN.out.2];exact hkm)
     obtain⟨b',o',x,rfl,hb',hx,hxl,hcx⟩:=(HP.out.calm HCr.out).r.get (k:=k) (by rw[HN.out.1];exact hkn)
     obtain⟨z,hz⟩:∃z,inside x y=z:=⟨_,rfl⟩
     have hcall:=rinside_v x y z wr hxl hyl (HOk.out.1 x (List.mem_of_getElem? hx)) (HOk.out.2 y (List.mem_of_getElem? hy)) hz
     have hxe:x=pAt p k:=by
      rw[pAt_get (by rw[HN.out.1];exact hkn)] at hx
      exact (Option.some.inj hx).symm
     have hye:y=pAt q k:=by
      rw[pAt_get (by rw[HN.out.2];exact hkm)] at hy
      exact (Option.some.inj hy).symm
     have HZ:Hid (inside (pAt p k) (pAt q k)=z):=by
      show _=_
      rw[←hxe,←hye]
      exact hz
     clear hx hy hxe hye hz
     cases z with
     |true=>
      go_wp2_with fail
      refine hcall.mono ?_
      rintro e w4 ⟨rfl,rfl⟩
      go_wp2
      go_roundw
      case rel=>
       refine⟨k+1,by omega,by go_num,fun j hj=>?_,HCr.out⟩
       by_cases e:j=k
       ·rw[e]
        exact HZ.out
       ·exact HI.out j (by omega)
      case measure=>simp[intOf];omega
     |false=>
      have hE:Hid (v=false):=by
       show v=false
       rw[←HV.out,insideP,Bool.and_eq_false_iff]
       refine .inr ?_
       rw[List.all_eq_false]
       exact⟨k,List.mem_range.2 (by rw[HN.out.2];exact hkm),by rw[HZ.out];simp⟩
      go_wp2_with fail
      refine hcall.mono ?_
      rintro e w4 ⟨rfl,rfl⟩
      go_wp2
      go_ret
      exact⟨ret_bool (by rw[hE.out]),HC.out.trans HCr.out⟩
    ·obtain rfl:k=m:=by omega
     have hE:Hid (v=true):=by
      show v=true
      rw[←HV.out,insideP,HL.out,Bool.true_and,List.all_eq_true]
      exact fun j hj=>HI.out j (by have:=List.mem_range.1 hj;rw[HN.out.2] at this;exact this)
     go_wp2
     go_ret
     exact⟨ret_bool (by rw[hE.out]),HC.out.trans HCr.out⟩
 ·have hLf:lenIn p q=false:=by simpa using hL
  have hE:Hid (v=false):=by
   show v=false
   rw[←HV.out,insideP,hLf]
   rfl
  have key:n < m∨(m≤n∧rf=false∧re=true)∨(m < n∧rf=false∧re=false)∨(rf=true∧re=false∧n=m):=by
   have h:=HLen.out
   rw[hLf] at h
   cases rf
   ·cases re
    ·have h2:n≠m:=fun e=>by
      rw[e] at h
      simp at h
     by_cases h3:n < m
     ·exact .inl h3
     ·exact .inr (.inr (.inl ⟨by omega,rfl,rfl⟩))
    ·by_cases h3:n < m
     ·exact .inl h3
     ·exact .inr (.inl ⟨by omega,rfl,rfl⟩)
   ·cases re
    ·have h2:¬m < n:=by simpa using h.symm
     by_cases h3:n < m
     ·exact .inl h3
     ·exact .inr (.inr (.inr ⟨rfl,rfl,by omega⟩))
    ·have h2:¬m≤n:=by simpa using h.symm
     exact .inl (by omega)
  clear hL hLf
  rcases key with hlt | ⟨hle,rfl,rfl⟩ | ⟨hlt,rfl,rfl⟩ | ⟨rfl,rfl,rfl⟩
  ·go_wp2
   go_ret
   exact⟨ret_bool (by rw[hE.out]),HC.out.trans HC3.out⟩
  ·have hb2:¬n < m:=by omega
   go_wp2
   go_ret
   exact⟨ret_bool (by rw[hE.out]),HC.out.trans HC3.out⟩
  ·have hb2:¬n < m:=by omega
   go_wp2
   go_ret
   exact⟨ret_bool (by rw[hE.out]),HC.out.trans HC3.out⟩
  ·go_wp2
   go_ret
   exact⟨ret_bool (by rw[hE.out]),HC.out.trans HC3.out⟩
end Go.Proofs.YtdcdabbepnahnaaGreatDoor
