/- The reference's ancestors by names, beside the chains of indices. No program in sight. -/
import Derived.Test.YtdcdabbepnahnaaGreatDoorZStrLaw
import Derived.Test.YtdcdabbepnahnaaGreatDoorZItself
import Derived.Test.YtdcdabbepnahnaaGreatDoorZCopyP
set_option linter.unusedSimpArgs false
set_option linter.unusedVariables false
namespace Go.Proofs.YtdcdabbepnahnaaGreatDoor.Sy
open Go
section
variable (ss:List Strm)
def refAnc:Nat→Option Nat→List Str
 |0,_=>[]
 |_+1,none=>[]
 |n+1,some i=>if (strm ss i).parent=[] then [] else (strm ss i).parent :: refAnc n (findI ss (strm ss i).parent)
def refAncs (nm:Str):List Str:=refAnc ss ss.length (findI ss nm)
def refRoot (nm:Str):Str:=(refAncs ss nm).getLastD nm
end
section
variable {ss:List Strm}
theorem refAnc_len:∀(n:Nat) (o:Option Nat),(refAnc ss n o).length≤n
 |0,_=>Nat.le_refl _
 |n+1,none=>Nat.zero_le _
 |n+1,some i=>by
  unfold refAnc
  by_cases e:(strm ss i).parent=[]
  ·rw[if_pos e];exact Nat.zero_le _
  ·rw[if_neg e]
   have:=refAnc_len n (findI ss (strm ss i).parent)
   simp only[List.length_cons]
   omega
theorem refAnc_above (hp:∀i,i < ss.length→parErr ss i=0):∀(n i:Nat),i < ss.length→refAnc ss n (some i)=(aboveN ss n i).map fun p=>(strm ss p).name
 |0,i,_=>rfl
 |n+1,i,hi=>by
  unfold refAnc aboveN
  have h1:=hp i hi
  by_cases e:(strm ss i).parent=[]
  ·rw[if_pos e,parentI_main e]
   rfl
  ·rw[if_neg e]
   rcases h:parentI ss i with _ | p
   ·simp[parErr,h,e] at h1
   ·have hf:findI ss (strm ss i).parent=some p:=by
     unfold parentI at h
     rw[if_neg e] at h
     exact h
    obtain⟨t,ht,hn,_⟩:=findI_some hf
    rw[hf,refAnc_above hp n p (findI_lt hf)]
    simp only[List.map_cons]
    rw[strm_at ht,hn]
theorem find_own (ho:∀i,i < ss.length→ownErr ss i=0) {i:Nat} (hi:i < ss.length):findI ss (strm ss i).name=some i:=by
 obtain⟨_,_,_,h1,_⟩:=ownErr_zero (ho i hi)
 obtain⟨k,hk,hle⟩:=findI_le (at_strm hi)
 rw[hk] at h1 ⊢
 simp only[Option.getD_some] at h1
 congr 1
 omega
theorem name_inj (ho:∀i,i < ss.length→ownErr ss i=0) {i j:Nat} (hi:i < ss.length) (hj:j < ss.length) (h:(strm ss i).name=(strm ss j).name):i=j:=by
 have h1:=find_own ho hi
 rw[h,find_own ho hj] at h1
 exact (Option.some.inj h1).symm
theorem refAncs_own (ho:∀i,i < ss.length→ownErr ss i=0) (hp:∀i,i < ss.length→parErr ss i=0) {i:Nat} (hi:i < ss.length):refAncs ss (strm ss i).name=(above ss i).map fun p=>(strm ss p).name:=by
 unfold refAncs
 rw[find_own ho hi,refAnc_above hp _ _ hi]
 rfl
theorem getLastD_map {α β:Type} (f:α→β):∀(l:List α) (d:α),(l.map f).getLastD (f d)=f (l.getLastD d)
 |[],_=>rfl
 |x :: l,d=>by
  rw[List.map_cons,List.getLastD_cons,List.getLastD_cons]
  exact getLastD_map f l x
theorem refRoot_own (ho:∀i,i < ss.length→ownErr ss i=0) (hp:∀i,i < ss.length→parErr ss i=0) {i:Nat} (hi:i < ss.length):refRoot ss (strm ss i).name=(strm ss (topI ss i)).name:=by
 unfold refRoot topI
 rw[refAncs_own ho hp hi]
 exact getLastD_map (fun p=>(strm ss p).name) (above ss i) i
theorem topI_lt {i:Nat} (hi:i < ss.length):topI ss i < ss.length:=by
 unfold topI
 rcases h:above ss i with _ | ⟨x,l⟩
 ·exact hi
 ·rw[List.getLastD_cons]
  refine above_lt (i:=i) ?_
  rw[h]
  have key:∀(l:List Nat) (x:Nat),l.getLastD x∈x :: l:=by
   intro l
   induction l with
   |nil=>intro x;simp
   |cons y l ih=>
    intro x
    rw[List.getLastD_cons]
    exact List.mem_cons_of_mem _ (ih y)
  exact key l x
theorem refRoot_same (ho:∀i,i < ss.length→ownErr ss i=0) (hp:∀i,i < ss.length→parErr ss i=0) {i j:Nat} (hi:i < ss.length) (hj:j < ss.length):(refRoot ss (strm ss j).name=refRoot ss (strm ss i).name)↔topI ss j=topI ss i:=by
 rw[refRoot_own ho hp hi,refRoot_own ho hp hj]
 exact⟨fun h=>name_inj ho (topI_lt hj) (topI_lt hi) h,fun h=>by rw[h]⟩
theorem cyc_ref (ho:∀i,i < ss.length→ownErr ss i=0) (hp:∀i,i < ss.length→parErr ss i=0) {i:Nat} (hi:i < ss.length):cycErr ss i=if (strm ss i).name∈refAncs ss (strm ss i).name then 84 else 0:=by
 unfold cycErr
 rw[refAncs_own ho hp hi]
 have:(strm ss i).name∈(above ss i).map (fun p=>(strm ss p).name)↔i∈above ss i:=by
  rw[List.mem_map]
  constructor
  ·rintro⟨p,h1,h2⟩
   have e:=name_inj ho (above_lt h1) hi h2
   exact e ▸ h1
  ·exact fun h=>⟨i,h,rfl⟩
 simp only[this]
theorem deep_ref (ho:∀i,i < ss.length→ownErr ss i=0) (hp:∀i,i < ss.length→parErr ss i=0) {i:Nat} (hi:i < ss.length):deepErr ss i=if 6 < 1+(refAncs ss (strm ss i).name).length then 80 else 0:=by
 unfold deepErr
 rw[refAncs_own ho hp hi,List.length_map]
end
end Go.Proofs.YtdcdabbepnahnaaGreatDoor.Sy
namespace Go.Proofs.YtdcdabbepnahnaaGreatDoor
open Go Go.RowKit Sy
def oZ:Option Nat→Int
 |none=>-1
 |some i=>(i:Nat)
theorem find_miss_all {ss:List Strm} {n:Nat} {nm:Str} (hn:ss.length=n) (h:∀j t,j < n→ss[j]?=some t→t.name≠nm):findI ss nm=none:=findI_miss fun j t ht=>h j t (by rw[←hn];exact (List.getElem?_eq_some_iff.1 ht).1) ht
set_option maxHeartbeats 2000000 in
theorem rfind_c (ss:List Strm) (nm:Str) (A:Option Addr) (n c:Nat) (w:World) (hs:StrmsU w A ss) (hn:ss.length=n) :
  Calls Tryz.prog 25 #[.slice A n c,.string (bs nm)] w fun e w'=>e=.returned (.int .i64 (oZ (findI ss nm)))∧Calm w w':=by
 have hlen:=hs.len
 rw[hn] at hlen
 have HN:=Lib.hid hn
 have HS:=Lib.hid hs
 clear hn hs
 go_enter Tryz.func25,Tryz.ntmps25
 go_wp2
 go_loopw [9] (fun q wr=>∃k:Nat,k≤n∧q=.int .i64 k∧Hid (∀j t,j < k→ss[j]?=some t→t.name≠nm)∧Hid (Calm w wr)) (fun q _=>n - (intOf q).toNat)
 case atStart=>exact⟨0,Nat.zero_le _,rfl,fun j t hj=>absurd hj (Nat.not_lt_zero _),Calm.refl _⟩
 case round=>
  obtain⟨k,hk,rfl,HG,HC⟩:=hrel
  by_cases hlt:k < n
  ·obtain⟨b,o,s,PA,pc,rfl,hb,hr,hat,hsu⟩:=(HS.out.calm HC.out).get (k:=k) (by rw[HN.out];exact hlt)
   have c0:=hat.c0
   have c1:=hat.c1
   have c2:=hat.c2
   obtain⟨sn,hsn⟩:∃sn,s.name=sn:=⟨_,rfl⟩
   obtain⟨pa,hpa⟩:∃pa,s.parent=pa:=⟨_,rfl⟩
   obtain⟨np,hnp⟩:∃np,s.paths.length=np:=⟨_,rfl⟩
   rw[hsn] at c0
   rw[hpa] at c1
   rw[hnp] at c2
   have HR:=Lib.hid hr
   have HX:=Lib.hid hsn
   clear hat hsu hr hsn hpa hnp
   by_cases e:sn=nm
   ·have hE:Hid (findI ss nm=some k):=findI_hit HR.out (by rw[HX.out];exact e) HG.out
    subst e
    go_wp2
    go_ret
    exact⟨ret_int (by rw[hE.out];rfl),HC.out.trans ((Calm.refl _).alloc _)⟩
   ·have hb1:(sn == nm)=false:=by simpa using e
    have HE:=Lib.hid e
    clear e
    go_wp2
    go_roundw
    case rel=>exact⟨k+1,by omega,by go_num,snoc_at (P:=fun t:Strm=>t.name≠nm) HR.out (by rw[HX.out];exact HE.out) HG.out,HC.out.trans ((Calm.refl _).alloc _)⟩
    case measure=>simp[intOf];omega
  ·obtain rfl:k=n:=by omega
   have hE:Hid (findI ss nm=none):=find_miss_all HN.out HG.out
   go_wp2
   go_ret
   exact⟨ret_int (by rw[hE.out];rfl),HC.out⟩
def NamesEnd (l:List Str) (e:Ending) (w':World):Prop:=∃A c,e=.returned (.slice A l.length c)∧StrsU w' A l∧l.length≤c
theorem refAnc_stop {ss:List Strm} {i:Nat} (h:(strm ss i).parent=[]):∀m,refAnc ss m (some i)=[]
 |0=>rfl
 |m+1=>by unfold refAnc;rw[if_pos h]
theorem refAnc_none (ss:List Strm):∀m,refAnc ss m none=[]
 |0=>rfl
 |m+1=>rfl
theorem refAnc_go {ss:List Strm} {i m:Nat} (h:(strm ss i).parent≠[]):refAnc ss (m+1) (some i)=(strm ss i).parent :: refAnc ss m (findI ss (strm ss i).parent):=by
 conv=>lhs;unfold refAnc
 rw[if_neg h]
set_option maxHeartbeats 4000000 in
theorem ranc_c (ss:List Strm) (nm:Str) (A:Option Addr) (n c:Nat) (w:World) (hs:StrmsU w A ss) (hn:ss.length=n) (hle:n≤1000) :
  Calls Tryz.prog 57 #[.slice A n c,.string (bs nm)] w fun e w'=>NamesEnd (refAncs ss nm) e w'∧Calm w w':=by
 have hlen:=hs.len
 have KF:Hid (∀W x,Calm w W→Calls Tryz.prog 25 #[.slice A n c,.string (bs x)] W fun e w'=>e=.returned (.int .i64 (oZ (findI ss x)))∧Calm W w'):=fun W x hW=>rfind_c ss x A n c W (hs.calm hW) hn
 obtain⟨o0,ho0⟩:∃o0,findI ss nm=o0:=⟨_,rfl⟩
 have hk0:=KF.out w nm (Calm.refl w)
 rw[ho0] at hk0
 obtain⟨z0,hz0⟩:∃z,oZ o0=z:=⟨_,rfl⟩
 rw[hz0] at hk0
 have HZ0:=Lib.hid hz0
 have HO:=Lib.hid ho0
 have HN:=Lib.hid hn
 have HS:=Lib.hid hs
 rw[hn] at hlen
 clear hn hs ho0 hz0
 go_enter Tryz.func57,Tryz.ntmps57
 go_wp2_with (go_at_call 25;refine hk0.mono ?_;rintro e w1 ⟨rfl,hc1⟩)
 have HC1:=Lib.hid hc1
 clear hc1 hk0
 go_loopw [5,6] (fun v p wr=>∃(acc:List Str) (o:Option Nat) (z:Int),acc.length≤n∧p=.int .i64 z∧Hid (oZ o=z)∧Hid (OwnS w wr v acc)∧Hid (refAncs ss nm=acc++refAnc ss (n - acc.length) o)∧Hid (∀x,o=some x→x < n)∧Hid (∀l∈acc,l.length≤1048576)) (fun v _ _=>n - lenV v)
 case atStart=>
  refine⟨[],o0,z0,Nat.zero_le _,rfl,HZ0,OwnS.nil HC1.out,?_,fun x hx=>?_,fun l hl=>by cases hl⟩
  ·show _=_
   rw[List.nil_append,List.length_nil,Nat.sub_zero,←HO.out,←HN.out]
   rfl
  ·rw[←HN.out]
   exact findI_lt (HO.out.trans hx)
 case round=>
  obtain⟨acc,o,z,hacc,rfl,HZ,HV,HA,HL,HE⟩:=hrel
  obtain⟨VA,vc,e0,hns⟩:=own_newS HV.out.own (by omega) HE.out
  subst e0
  have HU:=Lib.hid hns.u
  have HRm:=Lib.hid hns.room
  clear hns
  obtain⟨m,hm⟩:∃m,acc.length=m:=⟨_,rfl⟩
  have HV2:Hid (OwnS w wr (.slice VA m vc) acc):=by rw[←hm];exact HV
  have HA2:Hid (refAncs ss nm=acc++refAnc ss (n - m) o):=by rw[←hm];exact HA
  clear HV HA
  have HV:=HV2
  have HA:=HA2
  clear HV2 HA2
  rw[hm] at hacc ⊢
  have HM:=Lib.hid hm
  clear hm
  cases o with
  |none=>
   have hE:Hid (NamesEnd (refAncs ss nm) (.returned (.slice VA m vc)) wr):=by
    have e:=HA.out
    rw[refAnc_none,List.append_nil] at e
    exact⟨VA,vc,by rw[e,HM.out],by rw[e];exact HU.out,by rw[e];exact HRm.out⟩
   obtain rfl:-1=z:=HZ.out
   go_wp2
   go_ret
   exact⟨hE.out,HV.out.calm⟩
  |some x=>
   obtain rfl:((x:Nat):Int)=z:=HZ.out
   have hxn:=HL.out x rfl
   obtain⟨b,o,s,PA,pc,rfl,hb,hr,hat,hsu⟩:=HS.out.get (k:=x) (by rw[HN.out];exact hxn)
   have c1:=hat.c1
   have hpl:=hsu.par
   have hss:=strm_at hr
   obtain⟨pa,hpa⟩:∃pa,s.parent=pa:=⟨_,rfl⟩
   rw[hpa] at c1 hpl
   have HP:Hid ((strm ss x).parent=pa):=by show _=_;rw[hss,hpa]
   have HCw:=Lib.hid (And.intro c1 hb)
   replace c1:=Calm.at_ HV.out.calm c1 hb
   clear hat hsu hr hpa hss
   cases pa with
   |nil=>
    have hE:Hid (NamesEnd (refAncs ss nm) (.returned (.slice VA m vc)) wr):=by
     have e:=HA.out
     rw[refAnc_stop HP.out,List.append_nil] at e
     exact⟨VA,vc,by rw[e,HM.out],by rw[e];exact HU.out,by rw[e];exact HRm.out⟩
    have e0:bs []=⟨#[]⟩:=rfl
    rw[e0] at c1
    go_wp2
    go_ret
    exact⟨hE.out,HV.out.calm⟩
   |cons y t=>
    have hne:(y :: t).isEmpty=false:=rfl
    obtain⟨pa,hpa⟩:∃pa,y :: t=pa:=⟨_,rfl⟩
    have HP0:Hid (pa≠[]):=by show pa≠[];rw[←hpa];simp
    rw[hpa] at c1 hpl hne HP HCw
    clear hpa
    by_cases hlt:m < n
    ·obtain⟨o2,ho2⟩:∃o2,findI ss pa=o2:=⟨_,rfl⟩
     have HO2:=Lib.hid ho2
     obtain⟨z2,hz2⟩:∃z,oZ o2=z:=⟨_,rfl⟩
     have HZ2:=Lib.hid hz2
     have K2:Hid (∀W,Calm w W→Calls Tryz.prog 25 #[.slice (some ⟨b,o,none⟩) n c,.string (bs pa)] W fun e w'=>e=.returned (.int .i64 z2)∧Calm W w'):=fun W hW=>by
      have:=KF.out W pa hW
      rw[ho2,hz2] at this
      exact this
     clear ho2 hz2
     go_wp2_with (first
      |(at_builtin;refine wpList_append_str rfl (.tmp 34) (.tmp 40) rfl w _ acc rfl (HV.out.to ((Calm.refl wr).alloc (.cells #[.string (bs pa)] 9))) wr.heap.size 0 1 rfl pa (new_str _ rfl) (by rw[HM.out];omega) ?_;intro v5 w5 hown5 hgrow5;have d1:=Calm.at_ hown5.calm HCw.out.1 HCw.out.2)
      |(go_at_call 25;refine (K2.out w5 hown5.calm).mono ?_;rintro e w6 ⟨rfl,hc6⟩))
     go_roundw
     case rel=>
      refine⟨acc++[pa],o2,z2,by rw[List.length_append,HM.out];simp;omega,rfl,HZ2,hown5.to hc6,?_,fun x hx=>?_,fun l hl=>?_⟩
      ·show _=_
       rw[HA.out,List.length_append,HM.out,List.append_assoc]
       congr 1
       obtain⟨d,hd⟩:∃d,n - m=d+1:=⟨n - m - 1,by omega⟩
       rw[hd,show n - (m+[pa].length)=d by simp;omega,refAnc_go (by rw[HP.out];exact HP0.out),HP.out,HO2.out]
       rfl
      ·rw[←HN.out]
       exact findI_lt (HO2.out.trans hx)
      ·rcases List.mem_append.1 hl with h | h
       ·exact HE.out l h
       ·rw[List.mem_singleton] at h
        subst h
        exact hpl
     case measure=>
      obtain⟨A5,c5,e5,_⟩:=owns_strs hown5.own
      have hl5:(acc++[pa]).length=m+1:=by rw[List.length_append,HM.out];rfl
      rw[e5]
      simp only[lenV,hl5]
      omega
    ·obtain rfl:m=n:=by omega
     have hE:Hid (NamesEnd (refAncs ss nm) (.returned (.slice VA m vc)) wr):=by
      have e:=HA.out
      rw[Nat.sub_self] at e
      rw[show refAnc ss 0 (some x)=[] from rfl,List.append_nil] at e
      exact⟨VA,vc,by rw[e,HM.out],by rw[e];exact HU.out,by rw[e];exact HRm.out⟩
     go_wp2
     go_ret
     exact⟨hE.out,HV.out.calm⟩
theorem getLastD_last {α:Type}:∀(l:List α) (d:α),l≠[]→l[l.length - 1]?=some (l.getLastD d)
 |[],d,h=>absurd rfl h
 |[x],d,_=>rfl
 |x :: y :: l,d,_=>by
  rw[List.getLastD_cons]
  have:=getLastD_last (y :: l) x (by simp)
  simpa using this
set_option maxHeartbeats 2000000 in
theorem rroot_c (ss:List Strm) (nm:Str) (A:Option Addr) (n c:Nat) (w:World) (hs:StrmsU w A ss) (hn:ss.length=n) (hle:n≤1000) :
  Calls Tryz.prog 96 #[.slice A n c,.string (bs nm)] w fun e w'=>e=.returned (.string (bs (refRoot ss nm)))∧Calm w w':=by
 have hk:=ranc_c ss nm A n c w hs hn hle
 obtain⟨l,hl⟩:∃l,refAncs ss nm=l:=⟨_,rfl⟩
 have hE:Hid (refRoot ss nm=l.getLastD nm):=by show _=_;unfold refRoot;rw[hl]
 have hll:l.length≤1000:=by
  have:=refAnc_len (ss:=ss) ss.length (findI ss nm)
  rw[show refAnc ss ss.length (findI ss nm)=l from hl] at this
  omega
 rw[hl] at hk
 clear hs hn hl
 obtain⟨m,hm⟩:∃m,l.length=m:=⟨_,rfl⟩
 unfold NamesEnd at hk
 rw[hm] at hk hll
 have HM:=Lib.hid hm
 clear hm
 go_enter Tryz.func96,Tryz.ntmps96
 by_cases h0:0 < m
 ·go_wp2_with (go_at_call 57;refine hk.mono ?_;rintro e w1 ⟨⟨VA,vc,rfl,hu⟩,hc1⟩;obtain⟨g,o,y,rfl,hg,hy,_,hcell⟩:=hu.1.get (k:=m - 1) (by rw[HM.out];omega);have HY:=Lib.hid hy;clear hy hu;have hcast:((m:Int) - 1)=((m - 1:Nat):Int):=by omega)
  go_ret
  refine⟨?_,hc1⟩
  have h1:=getLastD_last l nm (fun e=>by have:=HM.out;rw[e] at this;simp at this;omega)
  rw[HM.out,HY.out] at h1
  rw[hE.out,←Option.some.inj h1]
  rfl
 ·obtain rfl:m=0:=by omega
  have hnil:Hid (l=[]):=List.eq_nil_of_length_eq_zero HM.out
  go_wp2_with (go_at_call 57;refine hk.mono ?_;rintro e w1 ⟨⟨VA,vc,rfl,hu⟩,hc1⟩;clear hu)
  go_ret
  exact⟨by rw[hE.out,hnil.out];rfl,hc1⟩
end Go.Proofs.YtdcdabbepnahnaaGreatDoor
