/- Walks: the two Checks of a line. -/
import Derived.Deep.QuietTactic
import Derived.BigQuiet
import Derived.Test.YtcofdlipapnohaaGreatDoorZCheckG
import Derived.Test.YtcofdlipapnohaaGreatDoorZWalkY
import Derived.Test.YtcofdlipapnohaaGreatDoorZSrvB
set_option linter.unusedVariables false
set_option linter.unusedSimpArgs false
namespace Go.Proofs.YtcofdlipapnohaaGreatDoor
open Go Go.RowKit Sy
def goodPat (p:Pat):Prop:=∀l∈p.parts,partOk l=true
theorem goodPat_of {p:Pat} (h:patErr p=0):goodPat p:=by
 intro l hl
 obtain⟨j,hj,e⟩:=List.mem_iff_getElem.1 hl
 rcases hp:partOk l with _ | _
 ·have hg:good j l=false:=by
   unfold good
   split
   ·simp only[partOk,Bool.or_eq_false_iff] at hp;exact hp.1
   ·exact hp
  rw[patErr_bad (by rw[List.getElem?_eq_getElem hj,e]) hg] at h
  omega
 ·rfl
theorem join_drop_le:∀(n:Nat) (l:List Str),(Lib.join (l.drop n) [47]).length≤(Lib.join l [47]).length
 |0,l=>by simp
 |n+1,[]=>by simp
 |n+1,[a]=>by simp[Lib.join,List.intercalate]
 |n+1,a :: b :: t=>by
  have ih:=join_drop_le n (b :: t)
  rw[List.drop_succ_cons,join47_cons]
  simp only[List.length_append,List.length_cons]
  omega
theorem capt_cap1 {part c:Str} (hs:isStar part=true) (hm:mtch part c=true):capt part c=cap1 part c:=by
 unfold mtch at hm
 rw[if_pos hs,Bool.and_eq_true] at hm
 unfold capt cap1
 rw[if_pos hs]
 unfold Lib.trimSuffix
 exact if_pos hm.1
theorem patErr_len {p:Pat} (h:patErr p=0):p.parts.length≤12:=by
 unfold patErr at h
 split at h
 ·cases h
 ·split at h
  ·split at h
   ·cases h
   ·omega
  ·cases h
def MatchEnd (p:Pat) (s:Str) (e:Ending) (w':World):Prop:=
 (matchS p s=true∧∃A c,e=.returned (.tuple #[.slice A (capsS p s).length c,.bool true])∧(capsS p s).length≤c∧StrsR w' A (capsS p s)∧c≤9223372036854775807)∨(matchS p s=false∧e=.returned (.tuple #[.slice none 0 0,.bool false]))
theorem MatchEnd.no {p:Pat} {s:Str} {w':World} (h:matchS p s=false):MatchEnd p s (.returned (.tuple #[.slice none 0 0,.bool false])) w':=.inr ⟨h,rfl⟩
theorem capsS_yes {p:Pat} {s:Str} {l:List Str} (hl:pathOf s=some l) (h:matchS p s=true):capsS p s=caps p l:=by
 rw[matchS,hl] at h
 rw[capsS,hl]
 simp only at h ⊢
 rw[if_pos h]
theorem MatchEnd.yes {p:Pat} {s:Str} {l ls:List Str} {w0 w':World} {v:Value} (hl:pathOf s=some l) (hs:s.length≤10000) (h:matchS p s=true) (hc:ls=caps p l) (hp:p.parts.length≤16000) (ho:OwnS w0 w' v ls):MatchEnd p s (.returned (.tuple #[v,.bool true])) w':=by
 obtain⟨h2,h3,h4⟩:=pathOf_some hl
 have hjl:(Lib.join l [47]).length≤10000:=by
  rw[h4] at hs
  simp only[pathStr,List.length_cons] at hs
  omega
 have hle:∀x∈l,x.length≤16384:=by
  have hh:l=slash (Lib.join l [47]):=(slash_join l (by rintro rfl;simp at h2) (fun x hx=>comp_no47 (List.all_eq_true.1 h3 x hx))).symm
  intro x hx
  rw[hh] at hx
  have:=slash_each _ x hx
  omega
 have h5:=capsTo_length p l p.parts.length
 obtain⟨A,c,rfl,hcc,hst⟩:=ho.strs (by
   rw[hc,caps,List.length_append]
   split <;> simp <;> omega) (fun x hx=>by
   rw[hc,caps,List.mem_append] at hx
   rcases hx with hx | hx
   ·exact capsTo_each hle _ x hx
   ·split at hx
    ·rw[List.mem_singleton.1 hx]
     have:=join_drop_le p.parts.length l
     omega
    ·cases hx)
 have e:capsS p s=ls:=by rw[capsS_yes hl h,hc]
 have hmax:c≤9223372036854775807:=by
  rcases ho.own.2 with⟨h1,h2⟩ | ⟨g,cap,cur,h1,_,_,_,h6,_⟩
  ·simp only[Value.slice.injEq] at h1
   omega
  ·simp only[Value.slice.injEq] at h1
   unfold maxLen at h6
   omega
 exact .inl ⟨h,A,c,by rw[e],by rw[e];exact hcc,by rw[e];exact hst,hmax⟩
set_option maxHeartbeats 2000000 in
theorem match_c (p:Pat) (s:Str) (A:Option Addr) (c:Nat) (w:World) (hs:s.length≤10000) (hr:StrsR w A p.parts) (hpc:p.parts.length≤c) (hc47:c≤9223372036854775807) (hM:MaxL w) :
  Calls Tryz.prog 183 #[.agg #[.slice A p.parts.length c,.bool p.rest],.string (bs s)] w fun e w'=>MatchEnd p s e w'∧Calm w w':=by
 have hlen:=hr.len
 obtain⟨n,hn⟩:∃n,p.parts.length=n:=⟨_,rfl⟩
 obtain⟨re,hre⟩:∃re,p.rest=re:=⟨_,rfl⟩
 obtain⟨w1,hw1⟩:∃w1,w1=w.alloc (.cells #[.slice A n c,.bool re] 65):=⟨_,rfl⟩
 have hc1:Calm w w1:=by rw[hw1];exact (Calm.refl w).alloc _
 have hs1:w.heap.size < w1.heap.size:=by rw[hw1];simp
 have k0:w1.cell? ⟨w.heap.size,0,none⟩=some (.slice A n c):=by rw[hw1];simp
 have k1:w1.cell? ⟨w.heap.size,1,none⟩=some (.bool re):=by rw[hw1];simp
 obtain⟨v,hv⟩:∃v,patErr p=v:=⟨_,rfl⟩
 have hck:Hid (∀W:World,Calm w1 W→Calls Tryz.prog 197 #[.agg #[.slice A n c,.bool re]] W fun e w'=>e=.returned (.int .i64 v)∧Calm W w'):=fun W hW=>by
  have:=pcheckG_c p A c W (StrsR.toG ((hr.calm hc1).calm hW)) hpc hc47
  rw[hn,hre,hv] at this
  exact this
 rw[hn,hre]
 rw[hn] at hlen
 have HR:=Lib.hid (hr.calm hc1)
 have HW:=Lib.hid hw1
 have HC:=Lib.hid hc1
 have HN:=Lib.hid hn
 have HRe:=Lib.hid hre
 have HV:=Lib.hid hv
 have HK:=Lib.hid (And.intro hs1 (And.intro k0 k1))
 have HM:=Lib.hid (hM.calm hc1)
 clear hn hre hw1 hc1 hs1 k0 k1 hr hv hpc hM
 go_enter Tryz.func183,Tryz.ntmps183
 rcases hpo:pathOf s with _ | l
 ·have hno:matchS p s=false:=by rw[matchS,hpo]
  have hq:=qsplit_no s w1 (by omega) HM.out hpo
  have HE:=Lib.hid hno
  clear hpo hno hck
  go_wp2_with (go_at_call 218;rw[←HW.out];refine hq.mono ?_;rintro e w2 ⟨rfl,hc2⟩)
  go_ret2
  exact⟨MatchEnd.no HE.out,HC.out.trans hc2⟩
 ·have hq:=qsplit_yes s l w1 (by omega) HM.out hpo
  obtain⟨m,hm⟩:∃m,l.length=m:=⟨_,rfl⟩
  rw[hm] at hq
  have HPo:=Lib.hid hpo
  have HL:=Lib.hid hm
  by_cases hv0:v=0
  ·subst hv0
   have h12:n≤12:=by rw[←HN.out];exact patErr_len HV.out
   have hokp:okPat p=true:=by rw[okPat,HV.out];rfl
   have HMS:Hid (matchS p s=(reaches p m && matchTo p l n)):=by
    show matchS p s=_
    rw[matchS,hpo]
    simp only
    rw[hokp,matchL_eq,hm,HN.out]
    rfl
   have hmb:m≤20000∧∀x∈l,x.length≤16384:=by
    obtain⟨h2,h3,h4⟩:=pathOf_some hpo
    have hh:l=slash (Lib.join l [47]):=(slash_join l (by rintro rfl;simp at h2) (fun x hx=>comp_no47 (List.all_eq_true.1 h3 x hx))).symm
    rw[h4] at hs
    simp only[pathStr,List.length_cons] at hs
    refine⟨?_,fun x hx=>?_⟩
    ·have:=slash_len (Lib.join l [47])
     rw[←hh] at this
     omega
    ·rw[hh] at hx
     have:=slash_each _ x hx
     omega
   have hm2:=hmb.1
   have HEach:=Lib.hid hmb.2
   clear hpo hokp hmb hm
   cases re with
   |false=>
    rcases Nat.lt_trichotomy m n with hmn | hmn | hmn
    ·have hv:Hid (matchS p s=false):=by
      show matchS p s=false
      rw[HMS.out]
      have:reaches p m=false:=by rw[reaches,HRe.out,HN.out];simp;omega
      rw[this]
      rfl
     go_wp2_with (first
      |(go_at_call 218;rw[←HW.out];refine hq.mono ?_;rintro e w2 ⟨rfl,hc2,hst2⟩;have l0:=hc2.at_ HK.out.2.1 HK.out.1;have l1:=hc2.at_ HK.out.2.2 HK.out.1)
      |(go_at_call 197;refine (hck.out _ hc2).mono ?_;rintro e w3 ⟨rfl,hc3⟩;have r0:=(hc2.trans hc3).at_ HK.out.2.1 HK.out.1;have r1:=(hc2.trans hc3).at_ HK.out.2.2 HK.out.1))
     go_ret2
     exact⟨MatchEnd.no hv.out,HC.out.trans (hc2.trans hc3)⟩
    ·obtain rfl:n=m:=hmn.symm
     have HRc:Hid (reaches p n=true):=by
      show reaches p n=true
      rw[reaches,HRe.out,HN.out]
      simp
     go_wp2_with (first
      |(go_at_call 218;rw[←HW.out];refine hq.mono ?_;rintro e w2 ⟨rfl,hc2,hst2⟩;have l0:=hc2.at_ HK.out.2.1 HK.out.1;have l1:=hc2.at_ HK.out.2.2 HK.out.1)
      |(go_at_call 197;refine (hck.out _ hc2).mono ?_;rintro e w3 ⟨rfl,hc3⟩;have r0:=(hc2.trans hc3).at_ HK.out.2.1 HK.out.1;have r1:=(hc2.trans hc3).at_ HK.out.2.2 HK.out.1))
     have HC3:=Lib.hid (hc2.trans hc3)
     have HSt:=Lib.hid (hst2.calm hc3)
     have HSz:=Lib.hid (HK.out.1)
     clear hq hck hc2 hc3 hst2 l0 l1 r0 r1
     go_loopw [9,45] (fun v q wr=>∃k:Nat,k≤n∧q=.int .i64 k∧Hid (OwnS w3 wr v (capsTo p l k))∧Hid (matchTo p l k=true)) (fun _ q _=>n - (intOf q).toNat)
     case atStart=>exact⟨0,Nat.zero_le _,rfl,OwnS.nil (Calm.refl _),rfl⟩
     case round=>
      obtain⟨k,hk,rfl,HO,HT⟩:=hrel
      by_cases hlt:k < n
      ·obtain⟨bb,o,part,rfl,hbb,hpt,hpl,hpc⟩:=(HR.out.calm (HC3.out.trans HO.out.calm)).get (k:=k) (by rw[HN.out];exact hlt)
       obtain⟨cb,co,x,hA,hcb,hx,_,hxc⟩:=(HSt.out.calm HO.out.calm).get (k:=k) (by rw[HL.out];omega)
       obtain⟨rfl,rfl⟩:w1.heap.size=cb∧0=co:=by simpa using hA
       rw[Nat.zero_add] at hxc
       have hxl:=HEach.out x (List.mem_of_getElem? hx)
       have hpa:pAt p k=part:=by simp[pAt,List.getD_eq_getElem?_getD,hpt]
       have hxd:l.getD k []=x:=by rw[List.getD_eq_getElem?_getD,hx];rfl
       have HPa:=Lib.hid hpa
       have HX:=Lib.hid hxd
       have hcl:=capsTo_length p l k
       have hcl2:(capsTo p l k).length≤1000000:=by omega
       have hkm:k < n:=by omega
       clear hA hpt hx hpa hxd hcl
       rcases hmt:mtch part x with _ | _
       ·have hmp:=mpart_c part x
        rw[hmt] at hmp
        have hv:Hid (matchS p s=false):=by
         show matchS p s=false
         rw[HMS.out,matchTo_stop hlt (by rw[HPa.out,HX.out];exact hmt),Bool.and_false]
        go_wp2_with (go_at_call 219;refine (hmp _ hpl (by omega)).mono ?_;rintro e w' ⟨rfl,rfl⟩)
        go_ret2
        exact⟨MatchEnd.no hv.out,HC.out.trans (HC3.out.trans HO.out.calm)⟩
       ·have hmp:=mpart_c part x
        rw[hmt] at hmp
        have hT2:Hid (matchTo p l (k+1)=true):=by
         show matchTo p l (k+1)=true
         rw[matchTo_succ,HT.out,HPa.out,HX.out,hmt]
         rfl
        rcases hst:isStar part with _ | _
        ·have hcs:Hid (capsTo p l (k+1)=capsTo p l k):=by
          show capsTo p l (k+1)=_
          rw[capsTo_succ,HPa.out,hst]
          simp
         go_wp2_with (first
          |(go_at_call 219;refine (hmp _ hpl (by omega)).mono ?_;rintro e w' ⟨rfl,rfl⟩)
          |(go_at_call 220;refine (isStar_v _ _ _ hst).mono ?_;rintro e w' ⟨rfl,rfl⟩))
         go_roundw
         case rel=>exact⟨k+1,by omega,by go_num,(by rw[hcs.out];exact HO.out),hT2⟩
         case measure=>simp[intOf];omega
        ·have hcs:Hid (capsTo p l (k+1)=capsTo p l k++[capt part x]):=by
          show capsTo p l (k+1)=_
          rw[capsTo_succ,HPa.out,HX.out,hst,capt_cap1 hst hmt]
          rfl
         go_wp2_with (first
          |(go_at_call 219;refine (hmp _ hpl (by omega)).mono ?_;rintro e w' ⟨rfl,rfl⟩)
          |(go_at_call 220;refine (isStar_v _ _ _ hst).mono ?_;rintro e w' ⟨rfl,rfl⟩)
          |(at_builtin;refine wpList_append_str rfl (.tmp 63) (.tmp 65) rfl w3 _ (capsTo p l k) rfl (HO.out.to ((Calm.refl wr).alloc (.cells #[.string (bs (capt part x))] 9))) wr.heap.size 0 1 rfl (capt part x) (by simp) hcl2 ?_;intro v5 w5 hown5 hgrow5))
         go_roundw
         case rel=>exact⟨k+1,by omega,by go_num,(by rw[hcs.out];exact hown5),hT2⟩
         case measure=>simp[intOf];omega
      ·obtain rfl:k=n:=by omega
       have hms:Hid (matchS p s=true):=by
        show matchS p s=true
        rw[HMS.out,HRc.out,HT.out]
        rfl
       have r1:=(HC3.out.trans HO.out.calm).at_ HK.out.2.2 HK.out.1
       have hf:Hid (capsTo p l k=caps p l):=by
        show _=caps p l
        rw[caps,HN.out,HRe.out]
        simp
       go_wp2_with fail
       go_ret2
       exact⟨MatchEnd.yes HPo.out hs hms.out hf.out (by rw[HN.out];omega) HO.out,HC.out.trans (HC3.out.trans HO.out.calm)⟩
    ·have hv:Hid (matchS p s=false):=by
      show matchS p s=false
      rw[HMS.out]
      have:reaches p m=false:=by rw[reaches,HRe.out,HN.out];simp;omega
      rw[this]
      rfl
     go_wp2_with (first
      |(go_at_call 218;rw[←HW.out];refine hq.mono ?_;rintro e w2 ⟨rfl,hc2,hst2⟩;have l0:=hc2.at_ HK.out.2.1 HK.out.1;have l1:=hc2.at_ HK.out.2.2 HK.out.1)
      |(go_at_call 197;refine (hck.out _ hc2).mono ?_;rintro e w3 ⟨rfl,hc3⟩;have r0:=(hc2.trans hc3).at_ HK.out.2.1 HK.out.1;have r1:=(hc2.trans hc3).at_ HK.out.2.2 HK.out.1))
     go_ret2
     exact⟨MatchEnd.no hv.out,HC.out.trans (hc2.trans hc3)⟩
   |true=>
    rcases Nat.lt_trichotomy m n with hmn | hmn | hmn
    ·have hv:Hid (matchS p s=false):=by
      show matchS p s=false
      rw[HMS.out]
      have:reaches p m=false:=by rw[reaches,HRe.out,HN.out];simp;omega
      rw[this]
      rfl
     go_wp2_with (first
      |(go_at_call 218;rw[←HW.out];refine hq.mono ?_;rintro e w2 ⟨rfl,hc2,hst2⟩;have l0:=hc2.at_ HK.out.2.1 HK.out.1;have l1:=hc2.at_ HK.out.2.2 HK.out.1)
      |(go_at_call 197;refine (hck.out _ hc2).mono ?_;rintro e w3 ⟨rfl,hc3⟩;have r0:=(hc2.trans hc3).at_ HK.out.2.1 HK.out.1;have r1:=(hc2.trans hc3).at_ HK.out.2.2 HK.out.1))
     go_ret2
     exact⟨MatchEnd.no hv.out,HC.out.trans (hc2.trans hc3)⟩
    ·obtain rfl:n=m:=hmn.symm
     have hv:Hid (matchS p s=false):=by
      show matchS p s=false
      rw[HMS.out]
      have:reaches p n=false:=by rw[reaches,HRe.out,HN.out];simp
      rw[this]
      rfl
     go_wp2_with (first
      |(go_at_call 218;rw[←HW.out];refine hq.mono ?_;rintro e w2 ⟨rfl,hc2,hst2⟩;have l0:=hc2.at_ HK.out.2.1 HK.out.1;have l1:=hc2.at_ HK.out.2.2 HK.out.1)
      |(go_at_call 197;refine (hck.out _ hc2).mono ?_;rintro e w3 ⟨rfl,hc3⟩;have r0:=(hc2.trans hc3).at_ HK.out.2.1 HK.out.1;have r1:=(hc2.trans hc3).at_ HK.out.2.2 HK.out.1))
     go_ret2
     exact⟨MatchEnd.no hv.out,HC.out.trans (hc2.trans hc3)⟩
    ·have hd1:decide (m < n)=false:=decide_eq_false (by omega)
     have hd2:decide (n < m)=true:=decide_eq_true hmn
     have HRc:Hid (reaches p m=true):=by
      show reaches p m=true
      rw[reaches,HRe.out,HN.out]
      simp
      omega
     go_wp2_with (first
      |(go_at_call 218;rw[←HW.out];refine hq.mono ?_;rintro e w2 ⟨rfl,hc2,hst2⟩;have l0:=hc2.at_ HK.out.2.1 HK.out.1;have l1:=hc2.at_ HK.out.2.2 HK.out.1)
      |(go_at_call 197;refine (hck.out _ hc2).mono ?_;rintro e w3 ⟨rfl,hc3⟩;have r0:=(hc2.trans hc3).at_ HK.out.2.1 HK.out.1;have r1:=(hc2.trans hc3).at_ HK.out.2.2 HK.out.1))
     have HC3:=Lib.hid (hc2.trans hc3)
     have HSt:=Lib.hid (hst2.calm hc3)
     have HSz:=Lib.hid (HK.out.1)
     clear hq hck hc2 hc3 hst2 l0 l1 r0 r1
     go_loopw [9,45] (fun v q wr=>∃k:Nat,k≤n∧q=.int .i64 k∧Hid (OwnS w3 wr v (capsTo p l k))∧Hid (matchTo p l k=true)) (fun _ q _=>n - (intOf q).toNat)
     case atStart=>exact⟨0,Nat.zero_le _,rfl,OwnS.nil (Calm.refl _),rfl⟩
     case round=>
      obtain⟨k,hk,rfl,HO,HT⟩:=hrel
      by_cases hlt:k < n
      ·obtain⟨bb,o,part,rfl,hbb,hpt,hpl,hpc⟩:=(HR.out.calm (HC3.out.trans HO.out.calm)).get (k:=k) (by rw[HN.out];exact hlt)
       obtain⟨cb,co,x,hA,hcb,hx,_,hxc⟩:=(HSt.out.calm HO.out.calm).get (k:=k) (by rw[HL.out];omega)
       obtain⟨rfl,rfl⟩:w1.heap.size=cb∧0=co:=by simpa using hA
       rw[Nat.zero_add] at hxc
       have hxl:=HEach.out x (List.mem_of_getElem? hx)
       have hpa:pAt p k=part:=by simp[pAt,List.getD_eq_getElem?_getD,hpt]
       have hxd:l.getD k []=x:=by rw[List.getD_eq_getElem?_getD,hx];rfl
       have HPa:=Lib.hid hpa
       have HX:=Lib.hid hxd
       have hcl:=capsTo_length p l k
       have hcl2:(capsTo p l k).length≤1000000:=by omega
       have hkm:k < m:=by omega
       clear hA hpt hx hpa hxd hcl
       rcases hmt:mtch part x with _ | _
       ·have hmp:=mpart_c part x
        rw[hmt] at hmp
        have hv:Hid (matchS p s=false):=by
         show matchS p s=false
         rw[HMS.out,matchTo_stop hlt (by rw[HPa.out,HX.out];exact hmt),Bool.and_false]
        go_wp2_with (go_at_call 219;refine (hmp _ hpl (by omega)).mono ?_;rintro e w' ⟨rfl,rfl⟩)
        go_ret2
        exact⟨MatchEnd.no hv.out,HC.out.trans (HC3.out.trans HO.out.calm)⟩
       ·have hmp:=mpart_c part x
        rw[hmt] at hmp
        have hT2:Hid (matchTo p l (k+1)=true):=by
         show matchTo p l (k+1)=true
         rw[matchTo_succ,HT.out,HPa.out,HX.out,hmt]
         rfl
        rcases hst:isStar part with _ | _
        ·have hcs:Hid (capsTo p l (k+1)=capsTo p l k):=by
          show capsTo p l (k+1)=_
          rw[capsTo_succ,HPa.out,hst]
          simp
         go_wp2_with (first
          |(go_at_call 219;refine (hmp _ hpl (by omega)).mono ?_;rintro e w' ⟨rfl,rfl⟩)
          |(go_at_call 220;refine (isStar_v _ _ _ hst).mono ?_;rintro e w' ⟨rfl,rfl⟩))
         go_roundw
         case rel=>exact⟨k+1,by omega,by go_num,(by rw[hcs.out];exact HO.out),hT2⟩
         case measure=>simp[intOf];omega
        ·have hcs:Hid (capsTo p l (k+1)=capsTo p l k++[capt part x]):=by
          show capsTo p l (k+1)=_
          rw[capsTo_succ,HPa.out,HX.out,hst,capt_cap1 hst hmt]
          rfl
         go_wp2_with (first
          |(go_at_call 219;refine (hmp _ hpl (by omega)).mono ?_;rintro e w' ⟨rfl,rfl⟩)
          |(go_at_call 220;refine (isStar_v _ _ _ hst).mono ?_;rintro e w' ⟨rfl,rfl⟩)
          |(at_builtin;refine wpList_append_str rfl (.tmp 63) (.tmp 65) rfl w3 _ (capsTo p l k) rfl (HO.out.to ((Calm.refl wr).alloc (.cells #[.string (bs (capt part x))] 9))) wr.heap.size 0 1 rfl (capt part x) (by simp) hcl2 ?_;intro v5 w5 hown5 hgrow5))
         go_roundw
         case rel=>exact⟨k+1,by omega,by go_num,(by rw[hcs.out];exact hown5),hT2⟩
         case measure=>simp[intOf];omega
      ·obtain rfl:k=n:=by omega
       have hms:Hid (matchS p s=true):=by
        show matchS p s=true
        rw[HMS.out,HRc.out,HT.out]
        rfl
       have r1:=(HC3.out.trans HO.out.calm).at_ HK.out.2.2 HK.out.1
       have hB:=(HSt.out.calm HO.out.calm).at_
       obtain⟨cb,co,hA,hcb,hcells⟩:=hB (by rw[HL.out];omega)
       obtain⟨rfl,rfl⟩:w1.heap.size=cb∧0=co:=by simpa using hA
       have hj:=join_off_c (l.drop k) w1.heap.size k (m - k) wr (fun j y hy=>by
         rw[List.getElem?_drop] at hy
         have:=hcells (k+j) y hy
         rw[Nat.zero_add] at this
         exact this) hcb (by rw[List.length_drop,HL.out];exact Nat.le_refl _) (by rw[List.length_drop,HL.out];omega) (fun y hy=>Nat.le_trans (HEach.out y (List.mem_of_mem_drop hy)) (by decide))
       rw[List.length_drop,HL.out] at hj
       have hcl:=capsTo_length p l k
       have hcl2:(capsTo p l k).length≤1000000:=by omega
       have hf:Hid (capsTo p l k++[Lib.join (l.drop k) [47]]=caps p l):=by
        show _=caps p l
        rw[caps,HN.out,HRe.out]
        rfl
       clear hB hA hcells hcl
       go_wp2_with (first
        |(go_at_call 221;refine hj.mono ?_;rintro e w4 ⟨rfl,hc4⟩)
        |(at_builtin;refine wpList_append_str rfl (.tmp 70) (.tmp 75) rfl w3 _ (capsTo p l k) rfl (HO.out.to (hc4.alloc (.cells #[.string (bs (Lib.join (l.drop k) [47]))] 9))) w4.heap.size 0 1 rfl (Lib.join (l.drop k) [47]) (by simp) hcl2 ?_;intro v5 w5 hown5 hgrow5))
       go_ret2
       exact⟨MatchEnd.yes HPo.out hs hms.out hf.out (by rw[HN.out];omega) hown5,HC.out.trans (HC3.out.trans hown5.calm)⟩
  ·have hno:matchS p s=false:=by
    rw[matchS,hpo]
    have:okPat p=false:=by rw[okPat,HV.out];simpa using hv0
    simp[this]
   have HE:=Lib.hid hno
   have hvb:(v != 0)=true:=by simpa using hv0
   clear hpo hno hv0 hm
   go_wp2_with (first
    |(go_at_call 218;rw[←HW.out];refine hq.mono ?_;rintro e w2 ⟨rfl,hc2,hst2⟩;have l0:=hc2.at_ HK.out.2.1 HK.out.1;have l1:=hc2.at_ HK.out.2.2 HK.out.1)
    |(go_at_call 197;refine (hck.out _ hc2).mono ?_;rintro e w3 ⟨rfl,hc3⟩))
   go_ret2
   exact⟨MatchEnd.no HE.out,HC.out.trans (hc2.trans hc3)⟩
theorem starTo_succ {p:Pat} {k:Nat} {x:Str} (h:p.parts[k]?=some x):starTo p (k+1)=starTo p k+if isStar x then 1 else 0:=by
 obtain⟨hlt,he⟩:=List.getElem?_eq_some_iff.1 h
 rw[starTo,List.take_succ_eq_append_getElem hlt,List.filter_append,he,List.length_append,←starTo]
 rcases hs:isStar x with _ | _ <;> simp[List.filter_cons,hs]
theorem starTo_all (p:Pat):starTo p p.parts.length=starN p:=by rw[starTo,List.take_length,starN]
set_option maxHeartbeats 1000000 in
theorem kinds_e (p:Pat) (v:Int) (A:Option Addr) (c:Nat) (w:World) (hr:StrsG w A p.parts) (hnc:p.parts.length≤c) (hc47:c≤9223372036854775807) (hv:patErr p=v) (hv0:v≠0) :
  Calls Tryz.prog 215 #[.agg #[.slice A p.parts.length c,.bool p.rest]] w fun e w'=>e=.returned (.tuple #[.int .i64 0,.bool false,.int .i64 v])∧Calm w w':=by
 obtain⟨w1,hw1⟩:∃w1,w1=w.alloc (.cells #[.slice A p.parts.length c,.bool p.rest] 65):=⟨_,rfl⟩
 have hc1:Calm w w1:=by rw[hw1];exact (Calm.refl w).alloc _
 have hck:=pcheckG_c p A c w1 (hr.calm hc1) hnc hc47
 rw[hv] at hck
 have hvb:(v != 0)=true:=by simpa using hv0
 have HW:=Lib.hid hw1
 have HC:=Lib.hid hc1
 clear hw1 hc1 hr hv hv0 hnc
 generalize p.parts.length=n at *
 generalize p.rest=re at *
 go_enter Tryz.func215,Tryz.ntmps215
 go_wp2_with (go_at_call 197;rw[←HW.out];refine hck.mono ?_;rintro e w2 ⟨rfl,hc2⟩)
 go_ret3
 exact⟨rfl,HC.out.trans hc2⟩
set_option maxHeartbeats 1000000 in
theorem kinds_c (p:Pat) (A:Option Addr) (c:Nat) (w:World) (hr:StrsG w A p.parts) (hnc:p.parts.length≤c) (hc47:c≤9223372036854775807) (hv:patErr p=0) :
  Calls Tryz.prog 215 #[.agg #[.slice A p.parts.length c,.bool p.rest]] w fun e w'=>e=.returned (.tuple #[.int .i64 (starN p:Nat),.bool p.rest,.int .i64 0])∧Calm w w':=by
 obtain⟨n,hn⟩:∃n,p.parts.length=n:=⟨_,rfl⟩
 obtain⟨re,hre⟩:∃re,p.rest=re:=⟨_,rfl⟩
 obtain⟨w1,hw1⟩:∃w1,w1=w.alloc (.cells #[.slice A n c,.bool re] 65):=⟨_,rfl⟩
 have hc1:Calm w w1:=by rw[hw1];exact (Calm.refl w).alloc _
 have hs1:w.heap.size < w1.heap.size:=by rw[hw1];simp
 have k0:w1.cell? ⟨w.heap.size,0,none⟩=some (.slice A n c):=by rw[hw1];simp
 have k1:w1.cell? ⟨w.heap.size,1,none⟩=some (.bool re):=by rw[hw1];simp
 have hck:=pcheckG_c p A c w1 (hr.calm hc1) hnc hc47
 have h12:=patErr_len hv
 rw[hv,hn,hre] at hck
 rw[hn] at h12
 rw[hre]
 have HW:=Lib.hid hw1
 have HC:=Lib.hid hc1
 have HN:=Lib.hid hn
 have HK:=Lib.hid (And.intro k0 k1)
 have HR:=Lib.hid (hr.calm hc1)
 rw[hn]
 clear hw1 hc1 hr hv hnc hn hre k0 k1
 go_enter Tryz.func215,Tryz.ntmps215
 go_wp2_with (go_at_call 197;rw[←HW.out];refine hck.mono ?_;rintro e w2 ⟨rfl,hc2⟩;have l0:=hc2.at_ HK.out.1 hs1)
 have HC2:=Lib.hid hc2
 clear hc2 l0 hck
 go_loopw [2,16] (fun t q wr=>∃k T:Nat,k≤n∧q=.int .i64 k∧t=.int .i64 T∧T≤k∧Hid (starTo p k=T)∧Hid (Calm w1 wr)) (fun _ q _=>n - (intOf q).toNat)
 case atStart=>exact⟨0,0,Nat.zero_le _,rfl,rfl,Nat.le_refl _,rfl,HC2.out⟩
 case round=>
  obtain⟨k,T,hk,rfl,rfl,hT,HT,HCr⟩:=hrel
  by_cases hlt:k < n
  ·obtain⟨b,o,x,rfl,hb,hx,hxl,hxc⟩:=(HR.out.calm HCr.out).get (k:=k) (by rw[HN.out];exact hlt)
   have hst:=starTo_succ hx
   rw[HT.out] at hst
   have HSt:=Lib.hid hst
   clear hx hst
   rcases hs:isStar x with _ | _
   ·go_wp2_with (go_at_call 220;refine (isStar_v _ _ _ hs).mono ?_;rintro e w' ⟨rfl,rfl⟩)
    go_roundw
    case rel=>exact⟨k+1,T,by omega,by go_num,rfl,by omega,(by show starTo p (k+1)=T;rw[HSt.out,hs];rfl),HCr.out⟩
    case measure=>simp[intOf];omega
   ·go_wp2_with (go_at_call 220;refine (isStar_v _ _ _ hs).mono ?_;rintro e w' ⟨rfl,rfl⟩)
    go_roundw
    case rel=>exact⟨k+1,T+1,by omega,by go_num,by go_num,by omega,(by show starTo p (k+1)=T+1;rw[HSt.out,hs];rfl),HCr.out⟩
    case measure=>simp[intOf];omega
  ·have hT2:Hid (starN p=T):=by
    show starN p=T
    rw[←starTo_all,HN.out,show n=k by omega]
    exact HT.out
   have l1:=HCr.out.at_ HK.out.2 hs1
   go_wp2_with fail
   go_quiet (fail)
   go_wp2
   go_ret3
   exact⟨by rw[hT2.out];rfl,HC.out.trans (HCr.out.drewN _)⟩
structure BoxR (w1:World) (B:Nat) (a:Pl) (r:Rule) (nl nr:Nat) (lr rr ex:Bool):Prop where
 lt:B < w1.heap.size
 c0:w1.cell? ⟨B,0,none⟩=some (.bool ex)
 c1:w1.cell? ⟨B,1,none⟩=some (.slice a.AL nl a.cl)
 c2:w1.cell? ⟨B,2,none⟩=some (.bool lr)
 c3:w1.cell? ⟨B,3,none⟩=some (.slice a.AR nr a.cr)
 c4:w1.cell? ⟨B,4,none⟩=some (.bool rr)
theorem BoxR.calm {w1 w2:World} {B:Nat} {a:Pl} {r:Rule} {nl nr:Nat} {lr rr ex:Bool} (h:BoxR w1 B a r nl nr lr rr ex) (hc:Calm w1 w2):BoxR w2 B a r nl nr lr rr ex:=
 ⟨Nat.lt_of_lt_of_le h.lt hc.size,hc.at_ h.c0 h.lt,hc.at_ h.c1 h.lt,hc.at_ h.c2 h.lt,hc.at_ h.c3 h.lt,hc.at_ h.c4 h.lt⟩
theorem ruleErr_left {r:Rule} (h:patErr r.left≠0):ruleErr r=40:=by rw[ruleErr,if_pos h]
theorem ruleErr_right {r:Rule} (h0:patErr r.left=0) (h:patErr r.right≠0):ruleErr r=41:=by rw[ruleErr,if_neg (by simpa using h0),if_pos h]
theorem ruleErr_kinds {r:Rule} (h0:patErr r.left=0) (h1:patErr r.right=0):ruleErr r=if starN r.left≠starN r.right∨r.left.rest≠r.right.rest then 42 else 0:=by rw[ruleErr,if_neg (by simpa using h0),if_neg (by simpa using h1)]
theorem starN_le (p:Pat) (h:patErr p=0):starN p≤12:=by
 have h1:=List.length_filter_le isStar p.parts
 have h2:=patErr_len h
 unfold starN
 omega
set_option maxHeartbeats 2000000 in
theorem rule_c (r:Rule) (a:Pl) (w:World) (hr:RuleU w a r):Calls Tryz.prog 179 #[ruleV a r] w fun e w'=>e=.returned (.int .i64 (ruleErr r))∧Calm w w':=by
 obtain⟨nl,hnl⟩:∃nl,r.left.parts.length=nl:=⟨_,rfl⟩
 obtain⟨nr,hnr⟩:∃nr,r.right.parts.length=nr:=⟨_,rfl⟩
 obtain⟨lr,hlr⟩:∃lr,r.left.rest=lr:=⟨_,rfl⟩
 obtain⟨rr,hrr⟩:∃rr,r.right.rest=rr:=⟨_,rfl⟩
 obtain⟨ex,hex⟩:∃ex,r.excl=ex:=⟨_,rfl⟩
 obtain⟨w1,hw1⟩:∃w1,w1=w.alloc (.cells #[.bool ex,.slice a.AL nl a.cl,.bool lr,.slice a.AR nr a.cr,.bool rr] 158):=⟨_,rfl⟩
 have hc1:Calm w w1:=by rw[hw1];exact (Calm.refl w).alloc _
 have hbox:BoxR w1 w.heap.size a r nl nr lr rr ex:=by rw[hw1];exact⟨by simp,by simp,by simp,by simp,by simp,by simp⟩
 have hru:=hr.calm hc1
 unfold ruleV
 rw[hnl,hnr,hlr,hrr,hex]
 have HW:=Lib.hid hw1
 have HC:=Lib.hid hc1
 have HN:=Lib.hid (And.intro hnl (And.intro hnr (And.intro hlr hrr)))
 have HB:=Lib.hid hbox
 have HR:=Lib.hid hru
 obtain⟨vl,hvl⟩:∃vl,patErr r.left=vl:=⟨_,rfl⟩
 obtain⟨vr,hvr⟩:∃vr,patErr r.right=vr:=⟨_,rfl⟩
 have HVl:=Lib.hid hvl
 have HVr:=Lib.hid hvr
 have b1:=hbox.c1
 have b2:=hbox.c2
 rw[hw1] at b1 b2
 clear hw1 hc1 hbox hr hru hnl hnr hlr hrr hex hvl hvr
 go_enter Tryz.func179,Tryz.ntmps179
 by_cases hl0:vl=0
 ·subst hl0
  obtain⟨sl,hsl⟩:∃sl,starN r.left=sl:=⟨_,rfl⟩
  have hk1:Calls Tryz.prog 215 #[.agg #[.slice a.AL nl a.cl,.bool lr]] w1 fun e w'=>e=.returned (.tuple #[.int .i64 (sl:Nat),.bool lr,.int .i64 0])∧Calm w1 w':=by
   have:=kinds_c r.left a.AL a.cl w1 HR.out.lr.toG HR.out.lroom HR.out.lcap HVl.out
   rw[hsl,HN.out.1,HN.out.2.2.1] at this
   exact this
  have hsl12:=starN_le r.left HVl.out
  rw[hsl] at hsl12
  have HSl:=Lib.hid hsl
  clear hsl
  go_wp2_with fail
  rw[←HW.out]
  refine hk1.mono ?_
  rintro e w2 ⟨rfl,hc2⟩
  have b3:=(HB.out.calm hc2).c3
  have b4:=(HB.out.calm hc2).c4
  clear b1 b2 hk1
  by_cases hr0:vr=0
  ·subst hr0
   obtain⟨sr,hsr⟩:∃sr,starN r.right=sr:=⟨_,rfl⟩
   have hk2:Calls Tryz.prog 215 #[.agg #[.slice a.AR nr a.cr,.bool rr]] w2 fun e w'=>e=.returned (.tuple #[.int .i64 (sr:Nat),.bool rr,.int .i64 0])∧Calm w2 w':=by
    have h2:=HR.out.calm hc2
    have:=kinds_c r.right a.AR a.cr w2 h2.rr.toG h2.rroom h2.rcap HVr.out
    rw[hsr,HN.out.2.1,HN.out.2.2.2] at this
    exact this
   have hsr12:=starN_le r.right HVr.out
   rw[hsr] at hsr12
   have hv:Hid (ruleErr r=if sl≠sr∨lr≠rr then 42 else 0):=by
    show ruleErr r=_
    rw[ruleErr_kinds HVl.out HVr.out,HSl.out,hsr,HN.out.2.2.1,HN.out.2.2.2]
   clear hsr
   by_cases hss:sl=sr
   ·obtain rfl:sl=sr:=hss
    have hb1:((sl:Int) != (sl:Int))=false:=by simp
    cases lr
    all_goals cases rr
    all_goals
     go_wp2_with fail
     refine hk2.mono ?_
     rintro e w3 ⟨rfl,hc3⟩
     go_wp2
     go_ret
     exact⟨ret_int (by rw[hv.out];simp),HC.out.trans (hc2.trans hc3)⟩
   ·have hb1:((sl:Int) != (sr:Int))=true:=by simp;omega
    have hv2:Hid (ruleErr r=42):=by
     show ruleErr r=42
     rw[hv.out,if_pos (.inl hss)]
    clear hv hss
    go_wp2_with fail
    refine hk2.mono ?_
    rintro e w3 ⟨rfl,hc3⟩
    go_wp2
    go_ret
    exact⟨ret_int (by rw[hv2.out]),HC.out.trans (hc2.trans hc3)⟩
  ·have hk2:Calls Tryz.prog 215 #[.agg #[.slice a.AR nr a.cr,.bool rr]] w2 fun e w'=>e=.returned (.tuple #[.int .i64 0,.bool false,.int .i64 vr])∧Calm w2 w':=by
    have h2:=HR.out.calm hc2
    have:=kinds_e r.right vr a.AR a.cr w2 h2.rr.toG h2.rroom h2.rcap HVr.out hr0
    rw[HN.out.2.1,HN.out.2.2.2] at this
    exact this
   have hv2:Hid (ruleErr r=41):=ruleErr_right HVl.out (by rw[HVr.out];exact hr0)
   have hvb:(vr != 0)=true:=by simpa using hr0
   clear hr0
   go_wp2_with fail
   refine hk2.mono ?_
   rintro e w3 ⟨rfl,hc3⟩
   go_wp2
   go_ret
   exact⟨ret_int (by rw[hv2.out]),HC.out.trans (hc2.trans hc3)⟩
 ·have hk1:Calls Tryz.prog 215 #[.agg #[.slice a.AL nl a.cl,.bool lr]] w1 fun e w'=>e=.returned (.tuple #[.int .i64 0,.bool false,.int .i64 vl])∧Calm w1 w':=by
   have:=kinds_e r.left vl a.AL a.cl w1 HR.out.lr.toG HR.out.lroom HR.out.lcap HVl.out hl0
   rw[HN.out.1,HN.out.2.2.1] at this
   exact this
  have hv2:Hid (ruleErr r=40):=ruleErr_left (by rw[HVl.out];exact hl0)
  have hvb:(vl != 0)=true:=by simpa using hl0
  clear hl0
  go_wp2_with fail
  rw[←HW.out]
  refine hk1.mono ?_
  rintro e w2 ⟨rfl,hc2⟩
  go_wp2
  go_ret
  exact⟨ret_int (by rw[hv2.out]),HC.out.trans hc2⟩
end Go.Proofs.YtcofdlipapnohaaGreatDoor
