/- Walks: the reference's Inside. -/
import Derived.Deep.QuietTactic
import Derived.BigQuiet
import Derived.Test.YtdcdabbepnahnaaGreatDoorZMeetW
import Derived.Test.YtdcdabbepnahnaaGreatDoorZCopyP
import Derived.Test.YtdcdabbepnahnaaGreatDoorZStrLaw
import Derived.Test.YtdcdabbepnahnaaGreatDoorZWalkY
import Derived.Test.YtdcdabbepnahnaaGreatDoorZCheckG
import Derived.Test.YtdcdabbepnahnaaGreatDoorZWalkD
set_option linter.unusedVariables false
set_option linter.unusedSimpArgs false
namespace Go.Proofs.YtdcdabbepnahnaaGreatDoor
open Go Go.RowKit Sy
theorem comp_not_star {l:Str} (h:comp l=true):isStar l=false:=by
 cases l with
 |nil=>rfl
 |cons c t=>
  simp only[comp,Bool.and_eq_true] at h
  rcases hs:isStar (c :: t) with _ | _
  ·rfl
  ·have:c=42:=by simpa[isStar] using hs
   subst this
   simp[isByte] at h
theorem starOk_iff {l:Str} (h:partOk l=true):starOk l=isStar l:=by
 rcases hs:starOk l with _ | _
 ·have:comp l=true:=by simpa[partOk,hs] using h
  rw[comp_not_star this]
 ·rw[starOk_star hs]
theorem comp_take {c:Str} (h:comp c=true) (k:Nat):comp (c.take k)=decide (0 < k):=by
 cases c with
 |nil=>cases h
 |cons a t=>
  cases k with
  |zero=>rfl
  |succ k=>
   simp only[comp,Bool.and_eq_true] at h
   simp only[List.take_succ_cons,comp,h.1.1,h.1.2,Bool.true_and]
   have:(t.take k).all isByte=true:=List.all_eq_true.2 fun b hb=>List.all_eq_true.1 h.2 b (List.mem_of_mem_take hb)
   simp[this]
theorem star_v (l:Str) (b:Bool) (t:Str) (w:World) (hl:l.length≤16384) (hb:starOk l=b) (ht:starSuf l=t):Calls Tryz.prog 144 #[.string (bs l)] w fun e w'=>e=.returned (.tuple #[.string (bs t),.bool b])∧w=w':=by
 have:=star_c l w (by omega)
 rw[hb,ht] at this
 exact this
def rcapt (part c:Str):Str:=if isStar part && endsWith c part.tail then c.take (c.length - part.tail.length) else []
theorem bs_take (c:Str) (k:Nat) (h:k≤c.length):(bs c).extract 0 k=bs (c.take k):=by
 apply ByteArray.ext
 apply Array.ext'
 rw[ByteArray.data_extract,Array.toList_extract,bs_toList,bs_toList]
 simp[List.extract_eq_take_drop]
set_option maxHeartbeats 1000000 in
theorem cap_c (part c:Str) (w:World) (hp:part.length≤16384) (hc:c.length≤20000) (hpo:partOk part=true) (hco:comp c=true) :
  Calls Tryz.prog 171 #[.string (bs part),.string (bs c)] w fun e w'=>e=.returned (.tuple #[.string (bs (rcapt part c)),.bool (mtch part c)])∧w=w':=by
 have hso:=starOk_iff hpo
 rcases hs:isStar part with _ | _
 ·have hv:Hid ((rcapt part c,mtch part c)=([],part == c)):=by show (_,_)=_;simp[rcapt,mtch,hs]
  have hst:=star_v part false [] w hp (by rw[hso,hs]) (by rw[starSuf,hso,hs];rfl)
  clear hso
  go_enter Tryz.func171,Tryz.ntmps171
  go_wp2_with (go_at_call 144;refine hst.mono ?_;rintro e w' ⟨rfl,rfl⟩)
  go_ret2
  have h1:=congrArg Prod.fst hv.out
  have h2:=congrArg Prod.snd hv.out
  dsimp only at h1 h2
  refine⟨?_,rfl⟩
  rw[h1,h2]
  rfl
 ·have hst:=star_v part true part.tail w hp (by rw[hso,hs]) (by rw[starSuf,hso,hs];rfl)
  obtain⟨t,ht⟩:∃t,part.tail=t:=⟨_,rfl⟩
  have htl:t.length≤16384:=by rw[←ht,List.length_tail];omega
  rw[ht] at hst
  have HT:=Lib.hid ht
  clear hso ht
  have hsf:=hasSuffix_c c t w (by omega)
  rcases he:endsWith c t with _ | _
  ·have hv:Hid ((rcapt part c,mtch part c)=([],false)):=by show (_,_)=_;simp[rcapt,mtch,hs,HT.out,he]
   rw[he] at hsf
   go_enter Tryz.func171,Tryz.ntmps171
   go_wp2_with (first | (go_at_call 144;refine hst.mono ?_;rintro e w' ⟨rfl,rfl⟩) | (go_at_call 170;refine hsf.mono ?_;rintro e w' ⟨rfl,rfl⟩))
   go_ret2
   have h1:=congrArg Prod.fst hv.out
   have h2:=congrArg Prod.snd hv.out
   dsimp only at h1 h2
   refine⟨?_,rfl⟩
   rw[h1,h2]
   rfl
  ·have hle:t.length≤c.length:=(endsWith_iff.1 he).length_le
   have hv:Hid ((rcapt part c,mtch part c)=(c.take (c.length - t.length),comp (c.take (c.length - t.length)))):=by
    show (_,_)=_
    rw[comp_take hco]
    simp only[rcapt,mtch,hs,HT.out,he,Bool.and_self,if_true,Bool.true_and]
    congr 1
    rw[decide_eq_decide]
    omega
   rw[he] at hsf
   have hx:=bs_take c (c.length - t.length) (by omega)
   have hcm:=rcomp_c (c.take (c.length - t.length)) w (by rw[List.length_take];omega)
   have hi:((c.length:Int) - (t.length:Int))=((c.length - t.length:Nat):Int):=by omega
   go_enter Tryz.func171,Tryz.ntmps171
   go_wp2_with (first | (go_at_call 144;refine hst.mono ?_;rintro e w' ⟨rfl,rfl⟩) | (go_at_call 170;refine hsf.mono ?_;rintro e w' ⟨rfl,rfl⟩) | (go_at_call 55;refine hcm.mono ?_;rintro e w' ⟨rfl,rfl⟩))
   go_ret2
   have h1:=congrArg Prod.fst hv.out
   have h2:=congrArg Prod.snd hv.out
   dsimp only at h1 h2
   refine⟨?_,rfl⟩
   rw[h1,h2]
   rfl
def goodPat (p:Pat):Prop:=∀l∈p.parts,partOk l=true
theorem goodPat_at {p:Pat} (h:goodPat p) (i:Nat):partOk (pAt p i)=true:=by
 rcases Nat.lt_or_ge i p.parts.length with hi | hi
 ·have:pAt p i=p.parts[i]:=by simp[pAt,List.getD_eq_getElem?_getD,List.getElem?_eq_getElem hi]
  rw[this];exact h _ (List.getElem_mem hi)
 ·rw[pAt_out hi];rfl
theorem goodPat_of {p:Pat} (h:patErr p=0):goodPat p:=by
 intro l hl
 obtain⟨j,hj,e⟩:=List.mem_iff_getElem.1 hl
 rcases hp:partOk l with _ | _
 ·have hg:good j l=false:=by
   unfold good
   split
   ·simp only[partOk,Bool.or_eq_false_iff] at hp;exact hp.1
   ·exact hp
  rw[patErr_bad (by rw[List.getElem?_eq_getElem hj,e]) hg] at h
  omega
 ·rfl
end Go.Proofs.YtdcdabbepnahnaaGreatDoor
namespace Go.Proofs.YtdcdabbepnahnaaGreatDoor
open Go.RowKit Sy
structure Pl where
 AL:Option Addr
 cl:Nat
 AR:Option Addr
 cr:Nat
deriving Inhabited
def Pl.turn (a:Pl):Pl:=⟨a.AR,a.cr,a.AL,a.cl⟩
def ruleV (a:Pl) (r:Rule):Value:=.agg #[.bool r.excl,.slice a.AL r.left.parts.length a.cl,.bool r.left.rest,.slice a.AR r.right.parts.length a.cr,.bool r.right.rest]
structure RuleU (w:World) (a:Pl) (r:Rule):Prop where
 lr:StrsU w a.AL r.left.parts
 rr:StrsU w a.AR r.right.parts
 lroom:r.left.parts.length≤a.cl
 rroom:r.right.parts.length≤a.cr
 lcap:a.cl≤9223372036854775807
 rcap:a.cr≤9223372036854775807
theorem RuleU.calm {w w':World} {a:Pl} {r:Rule} (h:RuleU w a r) (hc:Calm w w'):RuleU w' a r:=⟨h.lr.calm hc,h.rr.calm hc,h.lroom,h.rroom,h.lcap,h.rcap⟩
theorem RuleU.turn {w:World} {a:Pl} {r:Rule} (h:RuleU w a r):RuleU w a.turn r.turn:=⟨h.rr,h.lr,h.rroom,h.lroom,h.rcap,h.lcap⟩
end Go.Proofs.YtdcdabbepnahnaaGreatDoor
namespace Go.Proofs.YtdcdabbepnahnaaGreatDoor
open Go Go.RowKit Sy
structure RuleN (w:World) (B:Nat) (a:Pl) (r:Rule):Prop where
 l:NewS w B a.AL a.cl r.left.parts
 r:NewS w B a.AR a.cr r.right.parts
theorem RuleN.u {w:World} {B:Nat} {a:Pl} {r:Rule} (h:RuleN w B a r):RuleU w a r:=⟨h.l.u,h.r.u,h.l.room,h.r.room,h.l.cap,h.r.cap⟩
theorem RuleN.calm {w w':World} {B:Nat} {a:Pl} {r:Rule} (h:RuleN w B a r) (hc:Calm w w'):RuleN w' B a r:=⟨h.l.calm hc,h.r.calm hc⟩
theorem RuleN.mono {w:World} {B B':Nat} {a:Pl} {r:Rule} (h:RuleN w B a r) (hB:B'≤B):RuleN w B' a r:=⟨h.l.mono hB,h.r.mono hB⟩
theorem RuleN.grown {w w':World} {B:Nat} {a:Pl} {r:Rule} (h:RuleN w B a r) {B0 n size:Nat} {v:Value} {T:TypeId} {xs:List Value} (hT:9≠T) (hown:w.ownsRow B0 T size v n xs) (hg:w.grownBy w' v.ownBlock):RuleN w' B a r:=⟨h.l.grown hT hown hg,h.r.grown hT hown hg⟩
theorem join_drop_le:∀(n:Nat) (l:List Str),(Lib.join (l.drop n) [47]).length≤(Lib.join l [47]).length
 |0,l=>by simp
 |n+1,[]=>by simp
 |n+1,[a]=>by simp[Lib.join,List.intercalate]
 |n+1,a :: b :: t=>by
  have ih:=join_drop_le n (b :: t)
  rw[List.drop_succ_cons,join47_cons]
  simp only[List.length_append,List.length_cons]
  omega
theorem capt_cap1 {part c:Str} (hs:isStar part=true) (hm:mtch part c=true):capt part c=cap1 part c:=by
 unfold mtch at hm
 rw[if_pos hs,Bool.and_eq_true] at hm
 unfold capt cap1
 rw[if_pos hs]
 unfold Lib.trimSuffix
 exact if_pos hm.1
theorem patErr_len {p:Pat} (h:patErr p=0):p.parts.length≤12:=by
 unfold patErr at h
 split at h
 ·cases h
 ·split at h
  ·split at h
   ·cases h
   ·omega
  ·cases h
def MatchEnd (p:Pat) (s:Str) (e:Ending) (w':World):Prop:=
 (matchS p s=true∧∃A c,e=.returned (.tuple #[.slice A (capsS p s).length c,.bool true])∧(capsS p s).length≤c∧StrsR w' A (capsS p s)∧c≤9223372036854775807)∨(matchS p s=false∧e=.returned (.tuple #[.slice none 0 0,.bool false]))
theorem MatchEnd.no {p:Pat} {s:Str} {w':World} (h:matchS p s=false):MatchEnd p s (.returned (.tuple #[.slice none 0 0,.bool false])) w':=.inr ⟨h,rfl⟩
theorem capsS_yes {p:Pat} {s:Str} {l:List Str} (hl:pathOf s=some l) (h:matchS p s=true):capsS p s=caps p l:=by
 rw[matchS,hl] at h
 rw[capsS,hl]
 simp only at h ⊢
 rw[if_pos h]
theorem MatchEnd.yes {p:Pat} {s:Str} {l ls:List Str} {w0 w':World} {v:Value} (hl:pathOf s=some l) (hs:s.length≤10000) (h:matchS p s=true) (hc:ls=caps p l) (hp:p.parts.length≤16000) (ho:OwnS w0 w' v ls):MatchEnd p s (.returned (.tuple #[v,.bool true])) w':=by
 obtain⟨h2,h3,h4⟩:=pathOf_some hl
 have hjl:(Lib.join l [47]).length≤10000:=by
  rw[h4] at hs
  simp only[pathStr,List.length_cons] at hs
  omega
 have hle:∀x∈l,x.length≤16384:=by
  have hh:l=slash (Lib.join l [47]):=(slash_join l (by rintro rfl;simp at h2) (fun x hx=>comp_no47 (List.all_eq_true.1 h3 x hx))).symm
  intro x hx
  rw[hh] at hx
  have:=slash_each _ x hx
  omega
 have h5:=capsTo_length p l p.parts.length
 obtain⟨A,c,rfl,hcc,hst⟩:=ho.strs (by
   rw[hc,caps,List.length_append]
   split <;> simp <;> omega) (fun x hx=>by
   rw[hc,caps,List.mem_append] at hx
   rcases hx with hx | hx
   ·exact capsTo_each hle _ x hx
   ·split at hx
    ·rw[List.mem_singleton.1 hx]
     have:=join_drop_le p.parts.length l
     omega
    ·cases hx)
 have e:capsS p s=ls:=by rw[capsS_yes hl h,hc]
 have hmax:c≤9223372036854775807:=by
  rcases ho.own.2 with⟨h1,h2⟩ | ⟨g,cap,cur,h1,_,_,_,h6,_⟩
  ·simp only[Value.slice.injEq] at h1
   omega
  ·simp only[Value.slice.injEq] at h1
   unfold maxLen at h6
   omega
 exact .inl ⟨h,A,c,by rw[e],by rw[e];exact hcc,by rw[e];exact hst,hmax⟩
set_option maxHeartbeats 2000000 in
theorem match_c (p:Pat) (s:Str) (A:Option Addr) (c:Nat) (w:World) (hs:s.length≤10000) (hr:StrsR w A p.parts) (hpc:p.parts.length≤c) (hc47:c≤9223372036854775807) (hM:MaxL w) :
  Calls Tryz.prog 80 #[.agg #[.slice A p.parts.length c,.bool p.rest],.string (bs s)] w fun e w'=>MatchEnd p s e w'∧Calm w w':=by
 have hlen:=hr.len
 obtain⟨n,hn⟩:∃n,p.parts.length=n:=⟨_,rfl⟩
 obtain⟨re,hre⟩:∃re,p.rest=re:=⟨_,rfl⟩
 obtain⟨w1,hw1⟩:∃w1,w1=w.alloc (.cells #[.slice A n c,.bool re] 51):=⟨_,rfl⟩
 have hc1:Calm w w1:=by rw[hw1];exact (Calm.refl w).alloc _
 have hs1:w.heap.size < w1.heap.size:=by rw[hw1];simp
 have k0:w1.cell? ⟨w.heap.size,0,none⟩=some (.slice A n c):=by rw[hw1];simp
 have k1:w1.cell? ⟨w.heap.size,1,none⟩=some (.bool re):=by rw[hw1];simp
 obtain⟨v,hv⟩:∃v,patErr p=v:=⟨_,rfl⟩
 have hck:Hid (∀W:World,Calm w1 W→Calls Tryz.prog 110 #[.agg #[.slice A n c,.bool re]] W fun e w'=>e=.returned (.int .i64 v)∧Calm W w'):=fun W hW=>by
  have:=pcheckG_c p A c W (StrsR.toG ((hr.calm hc1).calm hW)) hpc hc47
  rw[hn,hre,hv] at this
  exact this
 rw[hn,hre]
 rw[hn] at hlen
 have HR:=Lib.hid (hr.calm hc1)
 have HW:=Lib.hid hw1
 have HC:=Lib.hid hc1
 have HN:=Lib.hid hn
 have HRe:=Lib.hid hre
 have HV:=Lib.hid hv
 have HK:=Lib.hid (And.intro hs1 (And.intro k0 k1))
 have HM:=Lib.hid (hM.calm hc1)
 clear hn hre hw1 hc1 hs1 k0 k1 hr hv hpc hM
 go_enter Tryz.func80,Tryz.ntmps80
 rcases hpo:pathOf s with _ | l
 ·have hno:matchS p s=false:=by rw[matchS,hpo]
  have hq:=qsplit_no s w1 (by omega) HM.out hpo
  have HE:=Lib.hid hno
  clear hpo hno hck
  go_wp2_with (go_at_call 117;rw[←HW.out];refine hq.mono ?_;rintro e w2 ⟨rfl,hc2⟩)
  go_ret2
  exact⟨MatchEnd.no HE.out,HC.out.trans hc2⟩
 ·have hq:=qsplit_yes s l w1 (by omega) HM.out hpo
  obtain⟨m,hm⟩:∃m,l.length=m:=⟨_,rfl⟩
  rw[hm] at hq
  have HPo:=Lib.hid hpo
  have HL:=Lib.hid hm
  by_cases hv0:v=0
  ·subst hv0
   have h12:n≤12:=by rw[←HN.out];exact patErr_len HV.out
   have hokp:okPat p=true:=by rw[okPat,HV.out];rfl
   have HMS:Hid (matchS p s=(reaches p m && matchTo p l n)):=by
    show matchS p s=_
    rw[matchS,hpo]
    simp only
    rw[hokp,matchL_eq,hm,HN.out]
    rfl
   have hmb:m≤20000∧∀x∈l,x.length≤16384:=by
    obtain⟨h2,h3,h4⟩:=pathOf_some hpo
    have hh:l=slash (Lib.join l [47]):=(slash_join l (by rintro rfl;simp at h2) (fun x hx=>comp_no47 (List.all_eq_true.1 h3 x hx))).symm
    rw[h4] at hs
    simp only[pathStr,List.length_cons] at hs
    refine⟨?_,fun x hx=>?_⟩
    ·have:=slash_len (Lib.join l [47])
     rw[←hh] at this
     omega
    ·rw[hh] at hx
     have:=slash_each _ x hx
     omega
   have hm2:=hmb.1
   have HEach:=Lib.hid hmb.2
   clear hpo hokp hmb hm
   cases re with
   |false=>
    rcases Nat.lt_trichotomy m n with hmn | hmn | hmn
    ·have hv:Hid (matchS p s=false):=by
      show matchS p s=false
      rw[HMS.out]
      have:reaches p m=false:=by rw[reaches,HRe.out,HN.out];simp;omega
      rw[this]
      rfl
     go_wp2_with (first
      |(go_at_call 117;rw[←HW.out];refine hq.mono ?_;rintro e w2 ⟨rfl,hc2,hst2⟩;have l0:=hc2.at_ HK.out.2.1 HK.out.1;have l1:=hc2.at_ HK.out.2.2 HK.out.1)
      |(go_at_call 110;refine (hck.out _ hc2).mono ?_;rintro e w3 ⟨rfl,hc3⟩;have r0:=(hc2.trans hc3).at_ HK.out.2.1 HK.out.1;have r1:=(hc2.trans hc3).at_ HK.out.2.2 HK.out.1))
     go_ret2
     exact⟨MatchEnd.no hv.out,HC.out.trans (hc2.trans hc3)⟩
    ·obtain rfl:n=m:=hmn.symm
     have HRc:Hid (reaches p n=true):=by
      show reaches p n=true
      rw[reaches,HRe.out,HN.out]
      simp
     go_wp2_with (first
      |(go_at_call 117;rw[←HW.out];refine hq.mono ?_;rintro e w2 ⟨rfl,hc2,hst2⟩;have l0:=hc2.at_ HK.out.2.1 HK.out.1;have l1:=hc2.at_ HK.out.2.2 HK.out.1)
      |(go_at_call 110;refine (hck.out _ hc2).mono ?_;rintro e w3 ⟨rfl,hc3⟩;have r0:=(hc2.trans hc3).at_ HK.out.2.1 HK.out.1;have r1:=(hc2.trans hc3).at_ HK.out.2.2 HK.out.1))
     have HC3:=Lib.hid (hc2.trans hc3)
     have HSt:=Lib.hid (hst2.calm hc3)
     have HSz:=Lib.hid (HK.out.1)
     clear hq hck hc2 hc3 hst2 l0 l1 r0 r1
     go_loopw [9,45] (fun v q wr=>∃k:Nat,k≤n∧q=.int .i64 k∧Hid (OwnS w3 wr v (capsTo p l k))∧Hid (matchTo p l k=true)) (fun _ q _=>n - (intOf q).toNat)
     case atStart=>exact⟨0,Nat.zero_le _,rfl,OwnS.nil (Calm.refl _),rfl⟩
     case round=>
      obtain⟨k,hk,rfl,HO,HT⟩:=hrel
      by_cases hlt:k < n
      ·obtain⟨bb,o,part,rfl,hbb,hpt,hpl,hpc⟩:=(HR.out.calm (HC3.out.trans HO.out.calm)).get (k:=k) (by rw[HN.out];exact hlt)
       obtain⟨cb,co,x,hA,hcb,hx,_,hxc⟩:=(HSt.out.calm HO.out.calm).get (k:=k) (by rw[HL.out];omega)
       obtain⟨rfl,rfl⟩:w1.heap.size=cb∧0=co:=by simpa using hA
       rw[Nat.zero_add] at hxc
       have hxl:=HEach.out x (List.mem_of_getElem? hx)
       have hpa:pAt p k=part:=by simp[pAt,List.getD_eq_getElem?_getD,hpt]
       have hxd:l.getD k []=x:=by rw[List.getD_eq_getElem?_getD,hx];rfl
       have HPa:=Lib.hid hpa
       have HX:=Lib.hid hxd
       have hcl:=capsTo_length p l k
       have hcl2:(capsTo p l k).length≤1000000:=by omega
       have hkm:k < n:=by omega
       clear hA hpt hx hpa hxd hcl
       rcases hmt:mtch part x with _ | _
       ·have hmp:=mpart_c part x
        rw[hmt] at hmp
        have hv:Hid (matchS p s=false):=by
         show matchS p s=false
         rw[HMS.out,matchTo_stop hlt (by rw[HPa.out,HX.out];exact hmt),Bool.and_false]
        go_wp2_with (go_at_call 118;refine (hmp _ hpl (by omega)).mono ?_;rintro e w' ⟨rfl,rfl⟩)
        go_ret2
        exact⟨MatchEnd.no hv.out,HC.out.trans (HC3.out.trans HO.out.calm)⟩
       ·have hmp:=mpart_c part x
        rw[hmt] at hmp
        have hT2:Hid (matchTo p l (k+1)=true):=by
         show matchTo p l (k+1)=true
         rw[matchTo_succ,HT.out,HPa.out,HX.out,hmt]
         rfl
        rcases hst:isStar part with _ | _
        ·have hcs:Hid (capsTo p l (k+1)=capsTo p l k):=by
          show capsTo p l (k+1)=_
          rw[capsTo_succ,HPa.out,hst]
          simp
         go_wp2_with (first
          |(go_at_call 118;refine (hmp _ hpl (by omega)).mono ?_;rintro e w' ⟨rfl,rfl⟩)
          |(go_at_call 119;refine (isStar_v _ _ _ hst).mono ?_;rintro e w' ⟨rfl,rfl⟩))
         go_roundw
         case rel=>exact⟨k+1,by omega,by go_num,(by rw[hcs.out];exact HO.out),hT2⟩
         case measure=>simp[intOf];omega
        ·have hcs:Hid (capsTo p l (k+1)=capsTo p l k++[capt part x]):=by
          show capsTo p l (k+1)=_
          rw[capsTo_succ,HPa.out,HX.out,hst,capt_cap1 hst hmt]
          rfl
         go_wp2_with (first
          |(go_at_call 118;refine (hmp _ hpl (by omega)).mono ?_;rintro e w' ⟨rfl,rfl⟩)
          |(go_at_call 119;refine (isStar_v _ _ _ hst).mono ?_;rintro e w' ⟨rfl,rfl⟩)
          |(at_builtin;refine wpList_append_str rfl (.tmp 63) (.tmp 65) rfl w3 _ (capsTo p l k) rfl (HO.out.to ((Calm.refl wr).alloc (.cells #[.string (bs (capt part x))] 9))) wr.heap.size 0 1 rfl (capt part x) (by simp) hcl2 ?_;intro v5 w5 hown5 hgrow5))
         go_roundw
         case rel=>exact⟨k+1,by omega,by go_num,(by rw[hcs.out];exact hown5),hT2⟩
         case measure=>simp[intOf];omega
      ·obtain rfl:k=n:=by omega
       have hms:Hid (matchS p s=true):=by
        show matchS p s=true
        rw[HMS.out,HRc.out,HT.out]
        rfl
       have r1:=(HC3.out.trans HO.out.calm).at_ HK.out.2.2 HK.out.1
       have hf:Hid (capsTo p l k=caps p l):=by
        show _=caps p l
        rw[caps,HN.out,HRe.out]
        simp
       go_wp2_with fail
       go_ret2
       exact⟨MatchEnd.yes HPo.out hs hms.out hf.out (by rw[HN.out];omega) HO.out,HC.out.trans (HC3.out.trans HO.out.calm)⟩
    ·have hv:Hid (matchS p s=false):=by
      show matchS p s=false
      rw[HMS.out]
      have:reaches p m=false:=by rw[reaches,HRe.out,HN.out];simp;omega
      rw[this]
      rfl
     go_wp2_with (first
      |(go_at_call 117;rw[←HW.out];refine hq.mono ?_;rintro e w2 ⟨rfl,hc2,hst2⟩;have l0:=hc2.at_ HK.out.2.1 HK.out.1;have l1:=hc2.at_ HK.out.2.2 HK.out.1)
      |(go_at_call 110;refine (hck.out _ hc2).mono ?_;rintro e w3 ⟨rfl,hc3⟩;have r0:=(hc2.trans hc3).at_ HK.out.2.1 HK.out.1;have r1:=(hc2.trans hc3).at_ HK.out.2.2 HK.out.1))
     go_ret2
     exact⟨MatchEnd.no hv.out,HC.out.trans (hc2.trans hc3)⟩
   |true=>
    rcases Nat.lt_trichotomy m n with hmn | hmn | hmn
    ·have hv:Hid (matchS p s=false):=by
      show matchS p s=false
      rw[HMS.out]
      have:reaches p m=false:=by rw[reaches,HRe.out,HN.out];simp;omega
      rw[this]
      rfl
     go_wp2_with (first
      |(go_at_call 117;rw[←HW.out];refine hq.mono ?_;rintro e w2 ⟨rfl,hc2,hst2⟩;have l0:=hc2.at_ HK.out.2.1 HK.out.1;have l1:=hc2.at_ HK.out.2.2 HK.out.1)
      |(go_at_call 110;refine (hck.out _ hc2).mono ?_;rintro e w3 ⟨rfl,hc3⟩;have r0:=(hc2.trans hc3).at_ HK.out.2.1 HK.out.1;have r1:=(hc2.trans hc3).at_ HK.out.2.2 HK.out.1))
     go_ret2
     exact⟨MatchEnd.no hv.out,HC.out.trans (hc2.trans hc3)⟩
    ·obtain rfl:n=m:=hmn.symm
     have hv:Hid (matchS p s=false):=by
      show matchS p s=false
      rw[HMS.out]
      have:reaches p n=false:=by rw[reaches,HRe.out,HN.out];simp
      rw[this]
      rfl
     go_wp2_with (first
      |(go_at_call 117;rw[←HW.out];refine hq.mono ?_;rintro e w2 ⟨rfl,hc2,hst2⟩;have l0:=hc2.at_ HK.out.2.1 HK.out.1;have l1:=hc2.at_ HK.out.2.2 HK.out.1)
      |(go_at_call 110;refine (hck.out _ hc2).mono ?_;rintro e w3 ⟨rfl,hc3⟩;have r0:=(hc2.trans hc3).at_ HK.out.2.1 HK.out.1;have r1:=(hc2.trans hc3).at_ HK.out.2.2 HK.out.1))
     go_ret2
     exact⟨MatchEnd.no hv.out,HC.out.trans (hc2.trans hc3)⟩
    ·have hd1:decide (m < n)=false:=decide_eq_false (by omega)
     have hd2:decide (n < m)=true:=decide_eq_true hmn
     have HRc:Hid (reaches p m=true):=by
      show reaches p m=true
      rw[reaches,HRe.out,HN.out]
      simp
      omega
     go_wp2_with (first
      |(go_at_call 117;rw[←HW.out];refine hq.mono ?_;rintro e w2 ⟨rfl,hc2,hst2⟩;have l0:=hc2.at_ HK.out.2.1 HK.out.1;have l1:=hc2.at_ HK.out.2.2 HK.out.1)
      |(go_at_call 110;refine (hck.out _ hc2).mono ?_;rintro e w3 ⟨rfl,hc3⟩;have r0:=(hc2.trans hc3).at_ HK.out.2.1 HK.out.1;have r1:=(hc2.trans hc3).at_ HK.out.2.2 HK.out.1))
     have HC3:=Lib.hid (hc2.trans hc3)
     have HSt:=Lib.hid (hst2.calm hc3)
     have HSz:=Lib.hid (HK.out.1)
     clear hq hck hc2 hc3 hst2 l0 l1 r0 r1
     go_loopw [9,45] (fun v q wr=>∃k:Nat,k≤n∧q=.int .i64 k∧Hid (OwnS w3 wr v (capsTo p l k))∧Hid (matchTo p l k=true)) (fun _ q _=>n - (intOf q).toNat)
     case atStart=>exact⟨0,Nat.zero_le _,rfl,OwnS.nil (Calm.refl _),rfl⟩
     case round=>
      obtain⟨k,hk,rfl,HO,HT⟩:=hrel
      by_cases hlt:k < n
      ·obtain⟨bb,o,part,rfl,hbb,hpt,hpl,hpc⟩:=(HR.out.calm (HC3.out.trans HO.out.calm)).get (k:=k) (by rw[HN.out];exact hlt)
       obtain⟨cb,co,x,hA,hcb,hx,_,hxc⟩:=(HSt.out.calm HO.out.calm).get (k:=k) (by rw[HL.out];omega)
       obtain⟨rfl,rfl⟩:w1.heap.size=cb∧0=co:=by simpa using hA
       rw[Nat.zero_add] at hxc
       have hxl:=HEach.out x (List.mem_of_getElem? hx)
       have hpa:pAt p k=part:=by simp[pAt,List.getD_eq_getElem?_getD,hpt]
       have hxd:l.getD k []=x:=by rw[List.getD_eq_getElem?_getD,hx];rfl
       have HPa:=Lib.hid hpa
       have HX:=Lib.hid hxd
       have hcl:=capsTo_length p l k
       have hcl2:(capsTo p l k).length≤1000000:=by omega
       have hkm:k < m:=by omega
       clear hA hpt hx hpa hxd hcl
       rcases hmt:mtch part x with _ | _
       ·have hmp:=mpart_c part x
        rw[hmt] at hmp
        have hv:Hid (matchS p s=false):=by
         show matchS p s=false
         rw[HMS.out,matchTo_stop hlt (by rw[HPa.out,HX.out];exact hmt),Bool.and_false]
        go_wp2_with (go_at_call 118;refine (hmp _ hpl (by omega)).mono ?_;rintro e w' ⟨rfl,rfl⟩)
        go_ret2
        exact⟨MatchEnd.no hv.out,HC.out.trans (HC3.out.trans HO.out.calm)⟩
       ·have hmp:=mpart_c part x
        rw[hmt] at hmp
        have hT2:Hid (matchTo p l (k+1)=true):=by
         show matchTo p l (k+1)=true
         rw[matchTo_succ,HT.out,HPa.out,HX.out,hmt]
         rfl
        rcases hst:isStar part with _ | _
        ·have hcs:Hid (capsTo p l (k+1)=capsTo p l k):=by
          show capsTo p l (k+1)=_
          rw[capsTo_succ,HPa.out,hst]
          simp
         go_wp2_with (first
          |(go_at_call 118;refine (hmp _ hpl (by omega)).mono ?_;rintro e w' ⟨rfl,rfl⟩)
          |(go_at_call 119;refine (isStar_v _ _ _ hst).mono ?_;rintro e w' ⟨rfl,rfl⟩))
         go_roundw
         case rel=>exact⟨k+1,by omega,by go_num,(by rw[hcs.out];exact HO.out),hT2⟩
         case measure=>simp[intOf];omega
        ·have hcs:Hid (capsTo p l (k+1)=capsTo p l k++[capt part x]):=by
          show capsTo p l (k+1)=_
          rw[capsTo_succ,HPa.out,HX.out,hst,capt_cap1 hst hmt]
          rfl
         go_wp2_with (first
          |(go_at_call 118;refine (hmp _ hpl (by omega)).mono ?_;rintro e w' ⟨rfl,rfl⟩)
          |(go_at_call 119;refine (isStar_v _ _ _ hst).mono ?_;rintro e w' ⟨rfl,rfl⟩)
          |(at_builtin;refine wpList_append_str rfl (.tmp 63) (.tmp 65) rfl w3 _ (capsTo p l k) rfl (HO.out.to ((Calm.refl wr).alloc (.cells #[.string (bs (capt part x))] 9))) wr.heap.size 0 1 rfl (capt part x) (by simp) hcl2 ?_;intro v5 w5 hown5 hgrow5))
         go_roundw
         case rel=>exact⟨k+1,by omega,by go_num,(by rw[hcs.out];exact hown5),hT2⟩
         case measure=>simp[intOf];omega
      ·obtain rfl:k=n:=by omega
       have hms:Hid (matchS p s=true):=by
        show matchS p s=true
        rw[HMS.out,HRc.out,HT.out]
        rfl
       have r1:=(HC3.out.trans HO.out.calm).at_ HK.out.2.2 HK.out.1
       have hB:=(HSt.out.calm HO.out.calm).at_
       obtain⟨cb,co,hA,hcb,hcells⟩:=hB (by rw[HL.out];omega)
       obtain⟨rfl,rfl⟩:w1.heap.size=cb∧0=co:=by simpa using hA
       have hj:=join_off_c (l.drop k) w1.heap.size k (m - k) wr (fun j y hy=>by
         rw[List.getElem?_drop] at hy
         have:=hcells (k+j) y hy
         rw[Nat.zero_add] at this
         exact this) hcb (by rw[List.length_drop,HL.out];exact Nat.le_refl _) (by rw[List.length_drop,HL.out];omega) (fun y hy=>Nat.le_trans (HEach.out y (List.mem_of_mem_drop hy)) (by decide))
       rw[List.length_drop,HL.out] at hj
       have hcl:=capsTo_length p l k
       have hcl2:(capsTo p l k).length≤1000000:=by omega
       have hf:Hid (capsTo p l k++[Lib.join (l.drop k) [47]]=caps p l):=by
        show _=caps p l
        rw[caps,HN.out,HRe.out]
        rfl
       clear hB hA hcells hcl
       go_wp2_with (first
        |(go_at_call 120;refine hj.mono ?_;rintro e w4 ⟨rfl,hc4⟩)
        |(at_builtin;refine wpList_append_str rfl (.tmp 70) (.tmp 75) rfl w3 _ (capsTo p l k) rfl (HO.out.to (hc4.alloc (.cells #[.string (bs (Lib.join (l.drop k) [47]))] 9))) w4.heap.size 0 1 rfl (Lib.join (l.drop k) [47]) (by simp) hcl2 ?_;intro v5 w5 hown5 hgrow5))
       go_ret2
       exact⟨MatchEnd.yes HPo.out hs hms.out hf.out (by rw[HN.out];omega) hown5,HC.out.trans (HC3.out.trans hown5.calm)⟩
  ·have hno:matchS p s=false:=by
    rw[matchS,hpo]
    have:okPat p=false:=by rw[okPat,HV.out];simpa using hv0
    simp[this]
   have HE:=Lib.hid hno
   have hvb:(v != 0)=true:=by simpa using hv0
   clear hpo hno hv0 hm
   go_wp2_with (first
    |(go_at_call 117;rw[←HW.out];refine hq.mono ?_;rintro e w2 ⟨rfl,hc2,hst2⟩;have l0:=hc2.at_ HK.out.2.1 HK.out.1;have l1:=hc2.at_ HK.out.2.2 HK.out.1)
    |(go_at_call 110;refine (hck.out _ hc2).mono ?_;rintro e w3 ⟨rfl,hc3⟩))
   go_ret2
   exact⟨MatchEnd.no HE.out,HC.out.trans (hc2.trans hc3)⟩
theorem starTo_succ {p:Pat} {k:Nat} {x:Str} (h:p.parts[k]?=some x):starTo p (k+1)=starTo p k+if isStar x then 1 else 0:=by
 obtain⟨hlt,he⟩:=List.getElem?_eq_some_iff.1 h
 rw[starTo,List.take_succ_eq_append_getElem hlt,List.filter_append,he,List.length_append,←starTo]
 rcases hs:isStar x with _ | _ <;> simp[List.filter_cons,hs]
theorem starTo_all (p:Pat):starTo p p.parts.length=starN p:=by rw[starTo,List.take_length,starN]
set_option maxHeartbeats 1000000 in
theorem kinds_e (p:Pat) (v:Int) (A:Option Addr) (c:Nat) (w:World) (hr:StrsG w A p.parts) (hnc:p.parts.length≤c) (hc47:c≤9223372036854775807) (hv:patErr p=v) (hv0:v≠0) :
  Calls Tryz.prog 109 #[.agg #[.slice A p.parts.length c,.bool p.rest]] w fun e w'=>e=.returned (.tuple #[.int .i64 0,.bool false,.int .i64 v])∧Calm w w':=by
 obtain⟨w1,hw1⟩:∃w1,w1=w.alloc (.cells #[.slice A p.parts.length c,.bool p.rest] 51):=⟨_,rfl⟩
 have hc1:Calm w w1:=by rw[hw1];exact (Calm.refl w).alloc _
 have hck:=pcheckG_c p A c w1 (hr.calm hc1) hnc hc47
 rw[hv] at hck
 have hvb:(v != 0)=true:=by simpa using hv0
 have HW:=Lib.hid hw1
 have HC:=Lib.hid hc1
 clear hw1 hc1 hr hv hv0 hnc
 generalize p.parts.length=n at *
 generalize p.rest=re at *
 go_enter Tryz.func109,Tryz.ntmps109
 go_wp2_with (go_at_call 110;rw[←HW.out];refine hck.mono ?_;rintro e w2 ⟨rfl,hc2⟩)
 go_ret3
 exact⟨rfl,HC.out.trans hc2⟩
set_option maxHeartbeats 1000000 in
theorem kinds_c (p:Pat) (A:Option Addr) (c:Nat) (w:World) (hr:StrsG w A p.parts) (hnc:p.parts.length≤c) (hc47:c≤9223372036854775807) (hv:patErr p=0) :
  Calls Tryz.prog 109 #[.agg #[.slice A p.parts.length c,.bool p.rest]] w fun e w'=>e=.returned (.tuple #[.int .i64 (starN p:Nat),.bool p.rest,.int .i64 0])∧Calm w w':=by
 obtain⟨n,hn⟩:∃n,p.parts.length=n:=⟨_,rfl⟩
 obtain⟨re,hre⟩:∃re,p.rest=re:=⟨_,rfl⟩
 obtain⟨w1,hw1⟩:∃w1,w1=w.alloc (.cells #[.slice A n c,.bool re] 51):=⟨_,rfl⟩
 have hc1:Calm w w1:=by rw[hw1];exact (Calm.refl w).alloc _
 have hs1:w.heap.size < w1.heap.size:=by rw[hw1];simp
 have k0:w1.cell? ⟨w.heap.size,0,none⟩=some (.slice A n c):=by rw[hw1];simp
 have k1:w1.cell? ⟨w.heap.size,1,none⟩=some (.bool re):=by rw[hw1];simp
 have hck:=pcheckG_c p A c w1 (hr.calm hc1) hnc hc47
 have h12:=patErr_len hv
 rw[hv,hn,hre] at hck
 rw[hn] at h12
 rw[hre]
 have HW:=Lib.hid hw1
 have HC:=Lib.hid hc1
 have HN:=Lib.hid hn
 have HK:=Lib.hid (And.intro k0 k1)
 have HR:=Lib.hid (hr.calm hc1)
 rw[hn]
 clear hw1 hc1 hr hv hnc hn hre k0 k1
 go_enter Tryz.func109,Tryz.ntmps109
 go_wp2_with (go_at_call 110;rw[←HW.out];refine hck.mono ?_;rintro e w2 ⟨rfl,hc2⟩;have l0:=hc2.at_ HK.out.1 hs1)
 have HC2:=Lib.hid hc2
 clear hc2 l0 hck
 go_loopw [2,16] (fun t q wr=>∃k T:Nat,k≤n∧q=.int .i64 k∧t=.int .i64 T∧T≤k∧Hid (starTo p k=T)∧Hid (Calm w1 wr)) (fun _ q _=>n - (intOf q).toNat)
 case atStart=>exact⟨0,0,Nat.zero_le _,rfl,rfl,Nat.le_refl _,rfl,HC2.out⟩
 case round=>
  obtain⟨k,T,hk,rfl,rfl,hT,HT,HCr⟩:=hrel
  by_cases hlt:k < n
  ·obtain⟨b,o,x,rfl,hb,hx,hxl,hxc⟩:=(HR.out.calm HCr.out).get (k:=k) (by rw[HN.out];exact hlt)
   have hst:=starTo_succ hx
   rw[HT.out] at hst
   have HSt:=Lib.hid hst
   clear hx hst
   rcases hs:isStar x with _ | _
   ·go_wp2_with (go_at_call 119;refine (isStar_v _ _ _ hs).mono ?_;rintro e w' ⟨rfl,rfl⟩)
    go_roundw
    case rel=>exact⟨k+1,T,by omega,by go_num,rfl,by omega,(by show starTo p (k+1)=T;rw[HSt.out,hs];rfl),HCr.out⟩
    case measure=>simp[intOf];omega
   ·go_wp2_with (go_at_call 119;refine (isStar_v _ _ _ hs).mono ?_;rintro e w' ⟨rfl,rfl⟩)
    go_roundw
    case rel=>exact⟨k+1,T+1,by omega,by go_num,by go_num,by omega,(by show starTo p (k+1)=T+1;rw[HSt.out,hs];rfl),HCr.out⟩
    case measure=>simp[intOf];omega
  ·have hT2:Hid (starN p=T):=by
    show starN p=T
    rw[←starTo_all,HN.out,show n=k by omega]
    exact HT.out
   have l1:=HCr.out.at_ HK.out.2 hs1
   go_wp2_with fail
   go_quiet (fail)
   go_wp2
   go_ret3
   exact⟨by rw[hT2.out];rfl,HC.out.trans (HCr.out.drewN _)⟩
set_option maxHeartbeats 1000000 in
theorem rkinds_c (p:Pat) (A:Option Addr) (c:Nat) (w:World) (hr:StrsG w A p.parts) (hsh:∀x∈p.parts,x.length≤16384) (hv:patErr p=0) :
  Calls Tryz.prog 141 #[.agg #[.slice A p.parts.length c,.bool p.rest]] w fun e w'=>e=.returned (.tuple #[.int .i64 (starN p:Nat),.bool p.rest])∧Calm w w':=by
 obtain⟨n,hn⟩:∃n,p.parts.length=n:=⟨_,rfl⟩
 obtain⟨re,hre⟩:∃re,p.rest=re:=⟨_,rfl⟩
 obtain⟨w1,hw1⟩:∃w1,w1=w.alloc (.cells #[.slice A n c,.bool re] 51):=⟨_,rfl⟩
 have hc1:Calm w w1:=by rw[hw1];exact (Calm.refl w).alloc _
 have hs1:w.heap.size < w1.heap.size:=by rw[hw1];simp
 have k0:w1.cell? ⟨w.heap.size,0,none⟩=some (.slice A n c):=by rw[hw1];simp
 have k1:w1.cell? ⟨w.heap.size,1,none⟩=some (.bool re):=by rw[hw1];simp
 have h12:=patErr_len hv
 rw[hn] at h12
 rw[hre]
 have HW:=Lib.hid hw1
 have HC:=Lib.hid hc1
 have HN:=Lib.hid hn
 have HSh:=Lib.hid hsh
 have HK:=Lib.hid (And.intro k0 k1)
 have HR:=Lib.hid (hr.calm hc1)
 have HV:=Lib.hid (goodPat_of hv)
 rw[hn]
 clear hw1 hc1 hr hv hn hre k0 k1 hsh
 go_enter Tryz.func141,Tryz.ntmps141
 go_wp2_with fail
 rw[←HW.out]
 go_loopw [4,12] (fun t q wr=>∃k T:Nat,k≤n∧q=.int .i64 k∧t=.int .i64 T∧T≤k∧Hid (starTo p k=T)∧Hid (Calm w1 wr)) (fun _ q _=>n - (intOf q).toNat)
 case atStart=>exact⟨0,0,Nat.zero_le _,rfl,rfl,Nat.le_refl _,rfl,Calm.refl _⟩
 case round=>
  obtain⟨k,T,hk,rfl,rfl,hT,HT,HCr⟩:=hrel
  by_cases hlt:k < n
  ·obtain⟨b,o,x,rfl,hb,hx,hxl,hxc⟩:=(HR.out.calm HCr.out).get (k:=k) (by rw[HN.out];exact hlt)
   have hst:=starTo_succ hx
   have hxm:=List.mem_of_getElem? hx
   have hx16:=HSh.out x hxm
   have hok:=starOk_iff (HV.out x hxm)
   rw[HT.out] at hst
   have HSt:=Lib.hid hst
   clear hx hst hxm
   rcases hs:isStar x with _ | _
   ·rw[hs] at hok
    go_wp2_with (go_at_call 144;refine (star_v x _ _ _ hx16 hok rfl).mono ?_;rintro e w' ⟨rfl,rfl⟩)
    go_roundw
    case rel=>exact⟨k+1,T,by omega,by go_num,rfl,by omega,(by show starTo p (k+1)=T;rw[HSt.out,hs];rfl),HCr.out⟩
    case measure=>simp[intOf];omega
   ·rw[hs] at hok
    go_wp2_with (go_at_call 144;refine (star_v x _ _ _ hx16 hok rfl).mono ?_;rintro e w' ⟨rfl,rfl⟩)
    go_roundw
    case rel=>exact⟨k+1,T+1,by omega,by go_num,by go_num,by omega,(by show starTo p (k+1)=T+1;rw[HSt.out,hs];rfl),HCr.out⟩
    case measure=>simp[intOf];omega
  ·have hT2:Hid (starN p=T):=by
    show starN p=T
    rw[←starTo_all,HN.out,show n=k by omega]
    exact HT.out
   have l1:=HCr.out.at_ HK.out.2 hs1
   go_wp2_with fail
   go_quiet (fail)
   go_wp2
   go_ret2
   exact⟨by rw[hT2.out];rfl,HC.out.trans (HCr.out.drewN _)⟩
set_option maxHeartbeats 1000000 in
theorem rinside_c (x y:Str) (w:World) (hx:x.length≤16384) (hy:y.length≤16384) (hxo:partOk x=true) (hyo:partOk y=true) :
  Calls Tryz.prog 142 #[.string (bs x),.string (bs y)] w fun e w'=>e=.returned (.bool (inside x y))∧w=w':=by
 by_cases hxy:x=y
 ·subst hxy
  have hv:inside x x=true:=by simp[inside]
  rw[hv]
  clear hv
  rcases hs:isStar x with _ | _
  ·have hst:=star_v x false [] w hx (by rw[starOk_iff hxo,hs]) (by rw[starSuf,starOk_iff hxo,hs];rfl)
   go_enter Tryz.func142,Tryz.ntmps142
   go_wp2_with (go_at_call 144;refine hst.mono ?_;rintro e w' ⟨rfl,rfl⟩)
   go_ret
   exact⟨rfl,rfl⟩
  ·have hst:=star_v x true x.tail w hx (by rw[starOk_iff hxo,hs]) (by rw[starSuf,starOk_iff hxo,hs];rfl)
   have hsf:=hasSuffix_c x.tail x.tail w (by rw[List.length_tail];omega)
   have he:endsWith x.tail x.tail=true:=endsWith_iff.2 (List.suffix_refl _)
   rw[he] at hsf
   clear he
   go_enter Tryz.func142,Tryz.ntmps142
   go_wp2_with (first | (go_at_call 144;refine hst.mono ?_;rintro e w' ⟨rfl,rfl⟩) | (go_at_call 170;refine hsf.mono ?_;rintro e w' ⟨rfl,rfl⟩))
   go_ret
   exact⟨rfl,rfl⟩
 ·have hne:(x == y)=false:=by simpa using hxy
  rcases hsy:isStar y with _ | _
  ·have hv:inside x y=false:=by simp[inside,hne,hsy]
   rw[hv]
   clear hv hxy
   have hty:=star_v y false [] w hy (by rw[starOk_iff hyo,hsy]) (by rw[starSuf,starOk_iff hyo,hsy];rfl)
   have htx:=star_c x w (by omega)
   go_enter Tryz.func142,Tryz.ntmps142
   go_wp2_with (first | (go_at_call_of 144 (bs x);refine htx.mono ?_;rintro e w' ⟨rfl,rfl⟩) | (go_at_call_of 144 (bs y);refine hty.mono ?_;rintro e w' ⟨rfl,rfl⟩))
   go_ret
   exact⟨rfl,rfl⟩
  ·have hty:=star_v y true y.tail w hy (by rw[starOk_iff hyo,hsy]) (by rw[starSuf,starOk_iff hyo,hsy];rfl)
   rcases hsx:isStar x with _ | _
   ·have hv:inside x y=mtch y x:=by simp[inside,hne,hsx,hsy]
    rw[hv]
    clear hv hxy
    have htx:=star_v x false [] w hx (by rw[starOk_iff hxo,hsx]) (by rw[starSuf,starOk_iff hxo,hsx];rfl)
    have hco:comp x=true:=by
     have h1:=starOk_iff hxo
     rw[hsx] at h1
     simpa[partOk,h1] using hxo
    have hca:=cap_c y x w hy (by omega) hyo hco
    generalize mtch y x=r at hca ⊢
    go_enter Tryz.func142,Tryz.ntmps142
    go_wp2_with (first | (go_at_call_of 144 (bs x);refine htx.mono ?_;rintro e w' ⟨rfl,rfl⟩) | (go_at_call_of 144 (bs y);refine hty.mono ?_;rintro e w' ⟨rfl,rfl⟩) | (go_at_call 171;refine hca.mono ?_;rintro e w' ⟨rfl,rfl⟩))
    go_ret
    exact⟨rfl,rfl⟩
   ·have hv:inside x y=endsWith x.tail y.tail:=by simp[inside,hne,hsx,hsy]
    rw[hv]
    clear hv hxy
    have htx:=star_v x true x.tail w hx (by rw[starOk_iff hxo,hsx]) (by rw[starSuf,starOk_iff hxo,hsx];rfl)
    have hsf:=hasSuffix_c x.tail y.tail w (by rw[List.length_tail];omega)
    generalize endsWith x.tail y.tail=r at hsf ⊢
    go_enter Tryz.func142,Tryz.ntmps142
    go_wp2_with (first | (go_at_call_of 144 (bs x);refine htx.mono ?_;rintro e w' ⟨rfl,rfl⟩) | (go_at_call_of 144 (bs y);refine hty.mono ?_;rintro e w' ⟨rfl,rfl⟩) | (go_at_call 170;refine hsf.mono ?_;rintro e w' ⟨rfl,rfl⟩))
    go_ret
    exact⟨rfl,rfl⟩
end Go.Proofs.YtdcdabbepnahnaaGreatDoor
