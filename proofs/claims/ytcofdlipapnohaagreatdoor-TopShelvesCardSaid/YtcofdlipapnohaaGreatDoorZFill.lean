/- Walks: the program's Fill: captures put in the place of the wildcards (written by program: gen_fill.py). -/
import Derived.Laws.MakeOwn
import Derived.Deep.QuietTactic
import Derived.BigQuiet
import Derived.Test.YtcofdlipapnohaaGreatDoorZRSameG
set_option linter.unusedVariables false
set_option linter.unusedSimpArgs false
namespace Go.Proofs.YtcofdlipapnohaaGreatDoor
open Go Go.RowKit Sy
theorem join_app (b:List Str) (hb:b≠[]):∀a:List Str,Lib.join (a++[Lib.join b [47]]) [47]=Lib.join (a++b) [47]
 |[]=>by rw[List.nil_append,List.nil_append,join47_one]
 |[x]=>by
  cases b with
  |nil=>exact absurd rfl hb
  |cons y t=>rw[List.singleton_append,List.singleton_append,join47_cons,join47_one,join47_cons]
 |x :: y :: a=>by
  have ih:=join_app b hb (y :: a)
  rw[List.cons_append,List.cons_append,List.cons_append,List.cons_append,join47_cons,join47_cons]
  rw[List.cons_append,List.cons_append] at ih
  rw[ih]
theorem fillR_get:∀(ps cs:List Str) (k:Nat) (x:Str),ps[k]?=some x→(fillR ps cs)[k]?=some (if isStar x then cs.getD ((ps.take k).filter isStar).length []++x.tail else x)
 |[],cs,k,x,h=>by simp at h
 |y :: ps,cs,0,x,h=>by
  simp only[List.getElem?_cons_zero,Option.some.injEq] at h
  subst h
  rw[fillR]
  split
  ·rename_i hs
   cases cs <;> simp
  ·simp
 |y :: ps,cs,k+1,x,h=>by
  simp only[List.getElem?_cons_succ] at h
  rw[fillR]
  rcases hs:isStar y with _ | _
  ·simp only[Bool.false_eq_true,if_false,List.getElem?_cons_succ]
   rw[fillR_get ps cs k x h]
   simp[List.filter_cons,hs]
  ·simp only[if_true,List.getElem?_cons_succ]
   rw[fillR_get ps cs.tail k x h]
   cases cs <;> simp[List.filter_cons,hs]
theorem fillR_step {p:Pat} {cs:List Str} {k:Nat} {x:Str} (h:p.parts[k]?=some x):(fillR p.parts cs).take (k+1)=(fillR p.parts cs).take k++[if isStar x then cs.getD (starTo p k) []++x.tail else x]:=by
 have h1:=fillR_get p.parts cs k x h
 obtain⟨hlt,he⟩:=List.getElem?_eq_some_iff.1 h1
 rw[List.take_succ_eq_append_getElem hlt,he]
 rfl
theorem fillR_take_all (p:Pat) (cs:List Str):(fillR p.parts cs).take p.parts.length=fillR p.parts cs:=by
 rw[List.take_of_length_le]
 rw[fillR_len]
 exact Nat.le_refl _
theorem starTo_mono (p:Pat) {k n:Nat} (h:k≤n):starTo p k≤starTo p n:=by
 have:p.parts.take k=(p.parts.take n).take k:=by rw[List.take_take,Nat.min_eq_left h]
 rw[starTo,this,starTo]
 exact ((List.take_sublist _ _).filter _).length_le
theorem StrsR.cut1 {w:World} {b o c:Nat} {x:Str} {xs:List Str} (h:StrsR w (some ⟨b,o,none⟩) (x :: xs)) (hc:xs.length+1≤c):StrsR w (some ⟨b,o+1,none⟩) xs:=by
 refine⟨by have:=h.len;simp only[List.length_cons] at this;omega,fun l hl=>h.each l (by simp[hl]),fun h0=>?_⟩
 obtain⟨b',o',hA,hb,hk⟩:=h.at_ (by simp)
 obtain⟨rfl,rfl⟩:b=b'∧o=o':=by simpa using hA
 refine⟨b,o+1,rfl,hb,fun k l hl=>?_⟩
 have:=hk (k+1) l (by simpa using hl)
 rw[show o+(k+1)=o+1+k by omega] at this
 exact this
theorem StrsR.nil_ {w:World} (A:Option Addr):StrsR w A []:=⟨by simp,(fun l hl=>by cases hl),(fun h=>by simp at h)⟩
theorem make_strs (n:Nat) (hn:n≤100000):∀w:World,(Instr.makeSlice 33 (.int .i64 0) (.int .i64 ((n:Int)+1))).run Tryz.prog w=.ok (.slice (some ⟨w.heap.size,0,none⟩) 0 (n+1)) (w.alloc (.cells (madeCells #[.string ByteArray.empty] (n+1)) 9)):=by
 intro w
 obtain⟨i0,hi0,hz0,hz1,hz2⟩:=info_parts info_strE
 have hb:(i0.bytes:Int) * ((n:Int)+1)≤281474976710656:=by rw[hz2];omega
 have hr:=run_make (P:=Tryz.prog) w 33 9 i0 _ Tryz.underlying33 hi0 hz0 .i64 .i64 0 ((n:Int)+1) (by omega) (by omega) hb (by omega)
 have e1:((n:Int)+1).toNat=n+1:=by omega
 rw[e1,hz1] at hr
 have hr2:=hr
 simp only[Int.toNat_zero,Nat.mul_one] at hr2
 exact hr2
theorem OwnS.made {w0 w:World} (hc:Calm w0 w) (n:Nat) (hn:n≤100000):OwnS w0 (w.alloc (.cells (madeCells #[.string ByteArray.empty] (n+1)) 9)) (.slice (some ⟨w.heap.size,0,none⟩) 0 (n+1)) []:=
 ⟨hc.alloc _,World.ownsRow_made _ _ _ hc.size (by unfold maxLen;omega) (by rw[size_madeCells];omega)⟩
def fillS (p:Pat) (cs rl:List Str):Str:=pathStr (fillR p.parts cs++(if p.rest then rl else []))
structure Fits (p:Pat) (cs rl:List Str):Prop where
 n:cs.length=starN p
 c:cs.all comp=true
 r:p.rest=true→rl≠[]∧rl.all comp=true
 cl:∀x∈cs,x.length≤10000
 rl_:(Lib.join rl [47]).length≤10000
def capsOf (p:Pat) (cs rl:List Str):List Str:=cs++(if p.rest then [Lib.join rl [47]] else [])
theorem fill_each {p:Pat} {cs rl:List Str} (hf:Fits p cs rl) (hp:∀x∈p.parts,x.length≤8000):∀l∈fillR p.parts cs,l.length≤18000:=by
 intro l hl
 obtain⟨j,hj,e⟩:=List.mem_iff_getElem.1 hl
 have hjl:j < p.parts.length:=by rw[fillR_len] at hj;exact hj
 have h1:=fillR_get p.parts cs j _ (List.getElem?_eq_getElem hjl)
 rw[List.getElem?_eq_getElem hj,e] at h1
 simp only[Option.some.injEq] at h1
 have h2:=hp _ (List.getElem_mem hjl)
 rw[h1]
 split
 ·rw[List.length_append,List.length_tail]
  have h3:(cs.getD ((p.parts.take j).filter isStar).length []).length≤10000:=by
   rw[List.getD_eq_getElem?_getD]
   rcases e:cs[((p.parts.take j).filter isStar).length]? with _ | y
   ·simp
   ·exact hf.cl y (List.mem_of_getElem? e)
  omega
 ·omega
theorem join_own_c (ls:List Str) (A:Option Addr) (c:Nat) (w:World) (hle:ls.length≤c) (hat:0 < ls.length→∃g,A=some ⟨g,0,none⟩∧g < w.heap.size∧∀(j:Nat) (l:Str),ls[j]?=some l→w.cell? ⟨g,j,none⟩=some (.string (bs l))) (hl:ls.length≤20000) (hK:∀l∈ls,l.length≤20000) :
  Calls Tryz.prog 221 #[.slice A ls.length c,.string ⟨#[47]⟩] w fun e w'=>e=.returned (.string (bs (Lib.join ls [47])))∧Calm w w':=by
 rcases Nat.eq_zero_or_pos ls.length with h0 | h0
 ·have:ls=[]:=List.eq_nil_of_length_eq_zero h0
  subst this
  exact (Tryz.strings_Join_none A c ⟨#[47]⟩ w).mono fun e w' ⟨h1,h2⟩=>⟨by rw[h1];rfl,by rw[h2];exact Calm.refl w⟩
 ·obtain⟨g,rfl,hg,hcells⟩:=hat h0
  exact join47_c ls g c w hcells hg hle hl hK
theorem capsOf_each {p:Pat} {cs rl:List Str} (h:Fits p cs rl):∀x∈capsOf p cs rl,x.length≤10000:=by
 intro x hx
 rw[capsOf,List.mem_append] at hx
 rcases hx with hx | hx
 ·exact h.cl x hx
 ·split at hx
  ·rw[List.mem_singleton.1 hx]
   exact h.rl_
  ·cases hx
set_option maxRecDepth 100000 in
set_option maxHeartbeats 4000000 in
theorem fill_c (p:Pat) (cs rl:List Str) (A:Option Addr) (c:Nat) (CA:Option Addr) (cc:Nat) (w:World) (hp:patErr p=0) (hr:StrsR w A p.parts) (h8:∀x∈p.parts,x.length≤8000) (hnc:p.parts.length≤c) (hc47:c≤9223372036854775807) (hf:Fits p cs rl)
  (hcap:StrsR w CA (capsOf p cs rl)) (hcr:(capsOf p cs rl).length≤cc) (hcc:cc≤9223372036854775807) (hM:MaxL w) :
  Calls Tryz.prog 216 #[.agg #[.slice A p.parts.length c,.bool p.rest],.slice CA (capsOf p cs rl).length cc] w fun e w'=>e=.returned (.tuple #[.string (bs (fillS p cs rl)),.int .i64 0])∧Calm w w':=by
 have h12:=patErr_len hp
 obtain⟨n,hn⟩:∃n,p.parts.length=n:=⟨_,rfl⟩
 obtain⟨m,hm⟩:∃m,(capsOf p cs rl).length=m:=⟨_,rfl⟩
 obtain⟨S,hS⟩:∃S,starN p=S:=⟨_,rfl⟩
 obtain⟨re,hre⟩:∃re,p.rest=re:=⟨_,rfl⟩
 obtain⟨w1,hw1⟩:∃w1,w1=w.alloc (.cells #[.slice A n c,.bool re] 65):=⟨_,rfl⟩
 have hc1:Calm w w1:=by rw[hw1];exact (Calm.refl w).alloc _
 have hs1:w.heap.size < w1.heap.size:=by rw[hw1];simp
 have k0:w1.cell? ⟨w.heap.size,0,none⟩=some (.slice A n c):=by rw[hw1];simp
 have hk:=kinds_c p A c w1 (StrsR.toG (hr.calm hc1)) hnc hc47 hp
 have hS12:=starN_le p hp
 rw[hn,hS,hre] at hk
 rw[hn] at h12
 rw[hS] at hS12
 have hmk:=make_strs n (by omega)
 have hall:=capsOf_each hf
 have hms:m=S+(if re then 1 else 0):=by rw[←hm,←hS,←hre,capsOf,List.length_append,hf.n];split <;> rfl
 rw[hre,hn,hm]
 rw[hm] at hcr
 have HW:=Lib.hid hw1
 have HC:=Lib.hid hc1
 have HN:=Lib.hid (And.intro hn (And.intro hm (And.intro hS hre)))
 have HF:=Lib.hid hf
 have HP:=Lib.hid (goodPat_of hp)
 have HR:=Lib.hid (hr.calm hc1)
 have HCaps:=Lib.hid (hcap.calm hc1)
 have HAll:=Lib.hid hall
 have HM:=Lib.hid (hM.calm hc1)
 have HK:=Lib.hid k0
 have H8:=Lib.hid h8
 clear h8 hn hm hS hre hw1 hc1 k0 hr hp hf hcap hM hnc hall
 go_enter Tryz.func216,Tryz.ntmps216
 cases re with
 |false=>
  have hmS:m=S:=hms
  have hg1:((m:Int) != (S:Int))=false:=by simp;omega
  have hmS1:m≤S:=by omega
  have hmS2:S≤m:=by omega
  clear hms hmS
  go_wp2_with (first
   |(go_at_call 215;rw[←HW.out];refine hk.mono ?_;rintro e w2 ⟨rfl,hc2⟩;have l0:=hc2.at_ HK.out hs1;have ls2:=Nat.lt_of_lt_of_le hs1 hc2.size))
  have HC2:=Lib.hid hc2
  clear hk l0 hc2 hg1 hmk ls2
  go_loopw [1,9,49] (fun u1 v q wr=>∃(k T m2 c2:Nat) (A2:Option Addr),k≤n∧q=.int .i64 k∧u1=.slice A2 m2 c2∧m2≤c2∧c2≤9223372036854775807∧T≤k∧T+m2≤m∧m≤T+m2∧Hid (starTo p k=T)∧Hid (StrsR w2 A2 ((capsOf p cs rl).drop T))∧Hid (OwnS w2 wr v ((fillR p.parts cs).take k))) (fun _ _ q _=>n - (intOf q).toNat)
  case atStart=>exact⟨0,0,m,cc,CA,Nat.zero_le _,rfl,rfl,hcr,hcc,Nat.le_refl _,by omega,by omega,rfl,by rw[List.drop_zero];exact HCaps.out.calm HC2.out,OwnS.made (Calm.refl _) n (by omega)⟩
  case round=>
   obtain⟨k,T,m2,c2,A2,hk,rfl,rfl,hmc2,hcc2,hT,hTm1,hTm2,HT,HCp,HO⟩:=hrel
   by_cases hlt:k < n
   ·obtain⟨pb,po,x,rfl,hpb,hx,hxl,hxc⟩:=(HR.out.calm (HC2.out.trans HO.out.calm)).get (k:=k) (by rw[HN.out.1];exact hlt)
    have hst:=starTo_succ hx
    have hfs:=fillR_step (cs:=cs) hx
    rw[HT.out] at hst hfs
    have hpo:=HP.out x (List.mem_of_getElem? hx)
    have HSt:=Lib.hid hst
    have HFs:=Lib.hid hfs
    have hlen:((fillR p.parts cs).take k).length≤1000000:=by rw[List.length_take];omega
    clear hx hst hfs
    rcases hs:isStar x with _ | _
    ·have hf2:Hid ((fillR p.parts cs).take (k+1)=(fillR p.parts cs).take k++[x]):=by
      show _=_
      rw[HFs.out,hs]
      rfl
     go_wp2_with (first
      |(go_at_call 220;refine (isStar_v _ _ _ hs).mono ?_;rintro e w' ⟨rfl,rfl⟩)
      |(at_builtin;refine wpList_append_str rfl (.tmp 68) (.tmp 70) rfl w2 _ ((fillR p.parts cs).take k) rfl (HO.out.to ((Calm.refl wr).alloc (.cells #[.string (bs x)] 9))) wr.heap.size 0 1 rfl x (by simp) hlen ?_;intro v5 w5 hown5 hgrow5))
     go_roundw
     case rel=>exact⟨k+1,T,m2,c2,A2,by omega,by go_num,rfl,hmc2,hcc2,by omega,hTm1,hTm2,(by show starTo p (k+1)=T;rw[HSt.out,hs];rfl),HCp.out,(by rw[hf2.out];exact hown5)⟩
     case measure=>simp[intOf];omega
    ·have hT1:T+1≤S:=by
      have h1:=starTo_mono p (show k+1≤n by omega)
      have h2:=starTo_all p
      rw[HN.out.1,HN.out.2.2.1] at h2
      rw[HSt.out,hs,h2] at h1
      exact h1
     obtain⟨y,hy⟩:∃y,cs.getD T []=y:=⟨_,rfl⟩
     have hTl:T < cs.length:=by rw[HF.out.n,HN.out.2.2.1];omega
     have hyT:cs[T]?=some y:=by rw[←hy,List.getD_eq_getElem?_getD,List.getElem?_eq_getElem hTl];rfl
     have hym:=List.mem_of_getElem? hyT
     have hyc:comp y=true:=List.all_eq_true.1 HF.out.c y hym
     have hyl:=HF.out.cl y hym
     have hdrop:(capsOf p cs rl).drop T=y :: (capsOf p cs rl).drop (T+1):=by
      have h3:(capsOf p cs rl)[T]?=some y:=by rw[capsOf,List.getElem?_append_left hTl,hyT]
      obtain⟨h4,h5⟩:=List.getElem?_eq_some_iff.1 h3
      rw[List.drop_eq_getElem_cons h4,h5]
     have HCp2:Hid (StrsR w2 A2 (y :: (capsOf p cs rl).drop (T+1))):=by
      show StrsR w2 A2 _
      rw[←hdrop]
      exact HCp.out
     have hf2:Hid ((fillR p.parts cs).take (k+1)=(fillR p.parts cs).take k++[y++x.tail]):=by
      show _=_
      rw[HFs.out,hs,hy]
      rfl
     obtain⟨cb,co,y',rfl,hcb,hy',_,hcell⟩:=(HCp2.out.calm HO.out.calm).get (k:=0) (by simp)
     obtain rfl:y=y':=by simpa using hy'
     rw[Nat.add_zero] at hcell
     have hm20:0 < m2:=by omega
     have hm21:(1:Int)≤(m2:Int):=by omega
     have hxp:1≤x.length:=by
      cases x with
      |nil=>cases hs
      |cons u v=>simp
     have hx1:=bs_tail x x.length rfl
     have hcat:bs y++bs x.tail=bs (y++x.tail):=(bs_append y x.tail).symm
     clear hy hyT hym hdrop hy' hTl
     go_wp2_with (first
      |(go_at_call 220;refine (isStar_v _ _ _ hs).mono ?_;rintro e w' ⟨rfl,rfl⟩)
      |(go_at_call 132;refine (comp_v _ _ _ (by omega) hyc).mono ?_;rintro e w' ⟨rfl,rfl⟩))
     have hst2:Hid (starTo p (k+1)=T+1):=by
      show _=_
      rw[HSt.out,hs]
      rfl
     by_cases hc1:c2=1
     ·have hnil:(capsOf p cs rl).drop (T+1)=[]:=List.drop_of_length_le (by rw[HN.out.2.1];omega)
      have HNil:=Lib.hid hnil
      obtain rfl:m2=1:=by omega
      subst hc1
      clear hnil
      go_quiet (fail)
      go_wp2_with (at_builtin;refine wpList_append_str rfl (.tmp 68) (.tmp 70) rfl w2 _ ((fillR p.parts cs).take k) rfl (HO.out.to (((Calm.refl wr).drewN _).alloc (.cells #[.string (bs (y++x.tail))] 9))) wr.heap.size 0 1 rfl (y++x.tail) (new_str _ rfl) hlen ?_;intro v5 w5 hown5 hgrow5)
      go_roundw
      case rel=>exact⟨k+1,T+1,0,0,_,by omega,by go_num,rfl,by omega,by omega,by omega,by omega,by omega,hst2,(by rw[HNil.out];exact StrsR.nil_ _),(by rw[hf2.out];exact hown5)⟩
      case measure=>simp[intOf];omega
     ·have HCut:Hid (StrsR w2 (some ⟨cb,co+1,none⟩) ((capsOf p cs rl).drop (T+1))):=HCp2.out.cut1 (c:=c2) (by rw[List.length_drop,HN.out.2.1];omega)
      go_quiet (fail)
      go_wp2_with (at_builtin;refine wpList_append_str rfl (.tmp 68) (.tmp 70) rfl w2 _ ((fillR p.parts cs).take k) rfl (HO.out.to (((Calm.refl wr).drewN _).alloc (.cells #[.string (bs (y++x.tail))] 9))) wr.heap.size 0 1 rfl (y++x.tail) (new_str _ rfl) hlen ?_;intro v5 w5 hown5 hgrow5)
      go_roundw
      case rel=>exact⟨k+1,T+1,m2 - 1,c2 - 1,_,by omega,by go_num,rfl,by omega,by omega,by omega,by omega,by omega,hst2,HCut.out,(by rw[hf2.out];exact hown5)⟩
      case measure=>simp[intOf];omega
   ·obtain rfl:k=n:=by omega
    have hTS:T=S:=by
     have h2:=starTo_all p
     rw[HN.out.1,HN.out.2.2.1,HT.out] at h2
     exact h2
    have HTS:=Lib.hid hTS
    have hlsl:(fillR p.parts cs).take k=fillR p.parts cs:=by rw[←HN.out.1];exact fillR_take_all p cs
    have hfn:(fillR p.parts cs).length=k:=by rw[fillR_len];exact HN.out.1
    have hfl:∀l∈fillR p.parts cs,l.length≤18000:=fill_each HF.out H8.out
    have hO2:=HO.out
    rw[hlsl] at hO2
    have HO2:=Lib.hid hO2
    clear hTS hlsl hO2
    obtain⟨A9,c9,hv9,hle9,hat9⟩:=owns_strs HO2.out.own
    have hj:=join_own_c (fillR p.parts cs) A9 c9 wr hle9 (fun h0=>by obtain⟨g,h1,_,h2,h3⟩:=hat9 h0;exact⟨g,h1,h2,h3⟩) (by omega) (fun l hl=>by have:=hfl l hl;omega)
    have hjl:=join47_len (ls:=fillR p.parts cs) (by omega) (fun l hl=>by have:=hfl l hl;omega)
    rw[hfn] at hv9 hj
    subst hv9
    have hfin:Hid (bs (fillS p cs rl)=⟨#[47,47]⟩++bs (Lib.join (fillR p.parts cs) [47])):=by
     show _=_
     rw[fillS,HN.out.2.2.2,pathStr]
     simp only[Bool.false_eq_true,if_false,List.append_nil]
     exact bs_append [47,47] _
    clear hat9 hfl hfn hle9
    go_wp2_with (go_at_call 221;refine hj.mono ?_;rintro e w7 ⟨rfl,hc7⟩)
    go_ret2
    exact⟨by rw[hfin.out];rfl,HC.out.trans (HC2.out.trans (HO.out.calm.trans hc7))⟩
 |true=>
  have hmS:m=S+1:=hms
  have hg1:((m:Int) != (S:Int)+1)=false:=by simp;omega
  have hmS1:m≤S+1:=by omega
  have hmS2:S+1≤m:=by omega
  clear hms hmS
  go_wp2_with (first
   |(go_at_call 215;rw[←HW.out];refine hk.mono ?_;rintro e w2 ⟨rfl,hc2⟩;have l0:=hc2.at_ HK.out hs1;have ls2:=Nat.lt_of_lt_of_le hs1 hc2.size))
  have HC2:=Lib.hid hc2
  clear hk l0 hc2 hg1 hmk ls2
  go_loopw [1,9,49] (fun u1 v q wr=>∃(k T m2 c2:Nat) (A2:Option Addr),k≤n∧q=.int .i64 k∧u1=.slice A2 m2 c2∧m2≤c2∧c2≤9223372036854775807∧T≤k∧T+m2≤m∧m≤T+m2∧Hid (starTo p k=T)∧Hid (StrsR w2 A2 ((capsOf p cs rl).drop T))∧Hid (OwnS w2 wr v ((fillR p.parts cs).take k))) (fun _ _ q _=>n - (intOf q).toNat)
  case atStart=>exact⟨0,0,m,cc,CA,Nat.zero_le _,rfl,rfl,hcr,hcc,Nat.le_refl _,by omega,by omega,rfl,by rw[List.drop_zero];exact HCaps.out.calm HC2.out,OwnS.made (Calm.refl _) n (by omega)⟩
  case round=>
   obtain⟨k,T,m2,c2,A2,hk,rfl,rfl,hmc2,hcc2,hT,hTm1,hTm2,HT,HCp,HO⟩:=hrel
   by_cases hlt:k < n
   ·obtain⟨pb,po,x,rfl,hpb,hx,hxl,hxc⟩:=(HR.out.calm (HC2.out.trans HO.out.calm)).get (k:=k) (by rw[HN.out.1];exact hlt)
    have hst:=starTo_succ hx
    have hfs:=fillR_step (cs:=cs) hx
    rw[HT.out] at hst hfs
    have hpo:=HP.out x (List.mem_of_getElem? hx)
    have HSt:=Lib.hid hst
    have HFs:=Lib.hid hfs
    have hlen:((fillR p.parts cs).take k).length≤1000000:=by rw[List.length_take];omega
    clear hx hst hfs
    rcases hs:isStar x with _ | _
    ·have hf2:Hid ((fillR p.parts cs).take (k+1)=(fillR p.parts cs).take k++[x]):=by
      show _=_
      rw[HFs.out,hs]
      rfl
     go_wp2_with (first
      |(go_at_call 220;refine (isStar_v _ _ _ hs).mono ?_;rintro e w' ⟨rfl,rfl⟩)
      |(at_builtin;refine wpList_append_str rfl (.tmp 68) (.tmp 70) rfl w2 _ ((fillR p.parts cs).take k) rfl (HO.out.to ((Calm.refl wr).alloc (.cells #[.string (bs x)] 9))) wr.heap.size 0 1 rfl x (by simp) hlen ?_;intro v5 w5 hown5 hgrow5))
     go_roundw
     case rel=>exact⟨k+1,T,m2,c2,A2,by omega,by go_num,rfl,hmc2,hcc2,by omega,hTm1,hTm2,(by show starTo p (k+1)=T;rw[HSt.out,hs];rfl),HCp.out,(by rw[hf2.out];exact hown5)⟩
     case measure=>simp[intOf];omega
    ·have hT1:T+1≤S:=by
      have h1:=starTo_mono p (show k+1≤n by omega)
      have h2:=starTo_all p
      rw[HN.out.1,HN.out.2.2.1] at h2
      rw[HSt.out,hs,h2] at h1
      exact h1
     obtain⟨y,hy⟩:∃y,cs.getD T []=y:=⟨_,rfl⟩
     have hTl:T < cs.length:=by rw[HF.out.n,HN.out.2.2.1];omega
     have hyT:cs[T]?=some y:=by rw[←hy,List.getD_eq_getElem?_getD,List.getElem?_eq_getElem hTl];rfl
     have hym:=List.mem_of_getElem? hyT
     have hyc:comp y=true:=List.all_eq_true.1 HF.out.c y hym
     have hyl:=HF.out.cl y hym
     have hdrop:(capsOf p cs rl).drop T=y :: (capsOf p cs rl).drop (T+1):=by
      have h3:(capsOf p cs rl)[T]?=some y:=by rw[capsOf,List.getElem?_append_left hTl,hyT]
      obtain⟨h4,h5⟩:=List.getElem?_eq_some_iff.1 h3
      rw[List.drop_eq_getElem_cons h4,h5]
     have HCp2:Hid (StrsR w2 A2 (y :: (capsOf p cs rl).drop (T+1))):=by
      show StrsR w2 A2 _
      rw[←hdrop]
      exact HCp.out
     have hf2:Hid ((fillR p.parts cs).take (k+1)=(fillR p.parts cs).take k++[y++x.tail]):=by
      show _=_
      rw[HFs.out,hs,hy]
      rfl
     obtain⟨cb,co,y',rfl,hcb,hy',_,hcell⟩:=(HCp2.out.calm HO.out.calm).get (k:=0) (by simp)
     obtain rfl:y=y':=by simpa using hy'
     rw[Nat.add_zero] at hcell
     have hm20:0 < m2:=by omega
     have hm21:(1:Int)≤(m2:Int):=by omega
     have hxp:1≤x.length:=by
      cases x with
      |nil=>cases hs
      |cons u v=>simp
     have hx1:=bs_tail x x.length rfl
     have hcat:bs y++bs x.tail=bs (y++x.tail):=(bs_append y x.tail).symm
     clear hy hyT hym hdrop hy' hTl
     go_wp2_with (first
      |(go_at_call 220;refine (isStar_v _ _ _ hs).mono ?_;rintro e w' ⟨rfl,rfl⟩)
      |(go_at_call 132;refine (comp_v _ _ _ (by omega) hyc).mono ?_;rintro e w' ⟨rfl,rfl⟩))
     have hst2:Hid (starTo p (k+1)=T+1):=by
      show _=_
      rw[HSt.out,hs]
      rfl
     by_cases hc1:c2=1
     ·exfalso;omega
     ·have HCut:Hid (StrsR w2 (some ⟨cb,co+1,none⟩) ((capsOf p cs rl).drop (T+1))):=HCp2.out.cut1 (c:=c2) (by rw[List.length_drop,HN.out.2.1];omega)
      go_quiet (fail)
      go_wp2_with (at_builtin;refine wpList_append_str rfl (.tmp 68) (.tmp 70) rfl w2 _ ((fillR p.parts cs).take k) rfl (HO.out.to (((Calm.refl wr).drewN _).alloc (.cells #[.string (bs (y++x.tail))] 9))) wr.heap.size 0 1 rfl (y++x.tail) (new_str _ rfl) hlen ?_;intro v5 w5 hown5 hgrow5)
      go_roundw
      case rel=>exact⟨k+1,T+1,m2 - 1,c2 - 1,_,by omega,by go_num,rfl,by omega,by omega,by omega,by omega,by omega,hst2,HCut.out,(by rw[hf2.out];exact hown5)⟩
      case measure=>simp[intOf];omega
   ·obtain rfl:k=n:=by omega
    have hTS:T=S:=by
     have h2:=starTo_all p
     rw[HN.out.1,HN.out.2.2.1,HT.out] at h2
     exact h2
    have HTS:=Lib.hid hTS
    have hlsl:(fillR p.parts cs).take k=fillR p.parts cs:=by rw[←HN.out.1];exact fillR_take_all p cs
    have hfn:(fillR p.parts cs).length=k:=by rw[fillR_len];exact HN.out.1
    have hfl:∀l∈fillR p.parts cs,l.length≤18000:=fill_each HF.out H8.out
    have hO2:=HO.out
    rw[hlsl] at hO2
    have HO2:=Lib.hid hO2
    clear hTS hlsl hO2
    obtain⟨hrl0,hrlc⟩:=HF.out.r HN.out.2.2.2
    obtain⟨J,hJ⟩:∃J,Lib.join rl [47]=J:=⟨_,rfl⟩
    have hJl:J.length≤10000:=by rw[←hJ];exact HF.out.rl_
    have hdrop:(capsOf p cs rl).drop T=[J]:=by
     rw[capsOf,HN.out.2.2.2,HTS.out,hJ]
     simp only[if_true]
     rw[List.drop_append_of_le_length (by rw[HF.out.n,HN.out.2.2.1];exact Nat.le_refl _),List.drop_of_length_le (by rw[HF.out.n,HN.out.2.2.1];exact Nat.le_refl _)]
     rfl
    have hCp:=HCp.out
    rw[hdrop] at hCp
    have HTS':=HTS.out
    obtain⟨cb,co,y',rfl,hcb,hy',_,hcell⟩:=(hCp.calm HO.out.calm).get (k:=0) (by simp)
    obtain rfl:J=y':=by simpa using hy'
    rw[Nat.add_zero] at hcell
    have hm20:0 < m2:=by omega
    have hsp:=split_c J wr (by omega) (HM.out.calm (HC2.out.trans HO.out.calm))
    have hsl:slash J=rl:=by rw[←hJ];exact slash_join rl hrl0 (fun x hx=>comp_no47 (List.all_eq_true.1 hrlc x hx))
    obtain⟨rn,hrn⟩:∃rn,rl.length=rn:=⟨_,rfl⟩
    have hrn4:rn≤4000001:=by
     have h1:=slash_len J
     rw[hsl,hrn] at h1
     omega
    rw[hsl,hrn] at hsp
    have HJ:=Lib.hid (And.intro hJ (And.intro hrn (And.intro hrl0 hrlc)))
    clear hJ hrn hrl0 hrlc hsl hdrop hCp hy' HTS'
    go_wp2_with (go_at_call 242;refine hsp.mono ?_;rintro e w3 ⟨rfl,hc3,hst3⟩;have hcell3:=hc3.at_ hcell hcb)
    have HS3:=Lib.hid hst3
    have HC3:=Lib.hid hc3
    have hcb3:cb < w3.heap.size:=Nat.lt_of_lt_of_le hcb hc3.size
    clear hsp hst3 hc3 hcell hcb
    go_loop [79] (fun q=>∃i:Nat,i≤rn∧q=.int .i64 i) (fun q=>rn - (intOf q).toNat)
    case atStart=>exact⟨0,Nat.zero_le _,rfl⟩
    case round=>
     obtain⟨i,hi,rfl⟩:=hrel
     by_cases hilt:i < rn
     ·obtain⟨sb,so,l,hA,hsb,hl,hll,hlc⟩:=HS3.out.get (k:=i) (by rw[HJ.out.2.1];exact hilt)
      obtain⟨rfl,rfl⟩:wr.heap.size=sb∧0=so:=by simpa using hA
      rw[Nat.zero_add] at hlc
      have hlco:comp l=true:=List.all_eq_true.1 HJ.out.2.2.2 l (List.mem_of_getElem? hl)
      clear hA hl
      go_wp2_with (go_at_call 132;refine (comp_v _ _ _ hll hlco).mono ?_;rintro e w' ⟨rfl,rfl⟩)
      go_round
      case rel=>exact⟨i+1,by omega,by go_num⟩
      case measure=>simp[intOf];omega
     ·have hlen:(fillR p.parts cs).length≤1000000:=by omega
      have hHO3:=HO2.out.to HC3.out
      have HHO3:=Lib.hid hHO3
      clear hHO3
      have hfin:Hid (bs (fillS p cs rl)=⟨#[47,47]⟩++bs (Lib.join (fillR p.parts cs++[J]) [47])):=by
       show _=_
       rw[fillS,HN.out.2.2.2,pathStr,←HJ.out.1,join_app rl HJ.out.2.2.1]
       simp only[if_true]
       exact bs_append [47,47] _
      have hfl2:∀l∈fillR p.parts cs++[J],l.length≤20000:=fun l hl=>by
       rcases List.mem_append.1 hl with h | h
       ·have:=hfl l h;omega
       ·rw[List.mem_singleton.1 h];omega
      have hfn2:(fillR p.parts cs++[J]).length=k+1:=by rw[List.length_append,hfn];rfl
      have hjl:=join47_len (ls:=fillR p.parts cs++[J]) (by omega) hfl2
      have HFn:=Lib.hid (And.intro hfn (And.intro hfn2 (And.intro hfl hfl2)))
      have hgo:Hid (∀W v,OwnS w2 W v (fillR p.parts cs++[J])→∃A9 c9,v=.slice A9 (k+1) c9∧Calls Tryz.prog 221 #[.slice A9 (k+1) c9,.string ⟨#[47]⟩] W fun e w'=>e=.returned (.string (bs (Lib.join (fillR p.parts cs++[J]) [47])))∧Calm W w'):=fun W v hO=>by
       obtain⟨A9,c9,hv9,hle9,hat9⟩:=owns_strs hO.own
       have hj:=join_own_c (fillR p.parts cs++[J]) A9 c9 W hle9 (fun h0=>by obtain⟨g,h1,_,h2,h3⟩:=hat9 h0;exact⟨g,h1,h2,h3⟩) (by omega) hfl2
       rw[hfn2] at hj hv9
       exact⟨A9,c9,hv9,hj⟩
      clear hfl hfl2 hfn hfn2
      go_wp2_with (first
       |(at_builtin;refine wpList_append_str rfl (.tmp 87) (.tmp 91) rfl w2 _ (fillR p.parts cs) rfl (HHO3.out.to ((Calm.refl w3).alloc (.cells #[.string (bs J)] 9))) w3.heap.size 0 1 rfl J (new_str _ rfl) hlen ?_;intro v5 w5 hown5 hgrow5;obtain⟨A9,c9,hv9,hj⟩:=hgo.out _ _ hown5;subst hv9)
       |(go_at_call 221;refine hj.mono ?_;rintro e w7 ⟨rfl,hc7⟩))
      go_ret2
      exact⟨by rw[hfin.out];rfl,HC.out.trans (HC2.out.trans (hown5.calm.trans hc7))⟩
end Go.Proofs.YtcofdlipapnohaaGreatDoor
