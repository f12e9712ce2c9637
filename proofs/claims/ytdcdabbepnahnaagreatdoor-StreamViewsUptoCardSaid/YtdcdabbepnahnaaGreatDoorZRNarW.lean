/- Walk: the reference's NarrowLeft. -/
import Derived.Deep.RegionHeld3
import Derived.Deep.RegionLaw
import Derived.Test.YtdcdabbepnahnaaGreatDoorZSubW
import Derived.Test.YtdcdabbepnahnaaGreatDoorZFwd
import Derived.Test.YtdcdabbepnahnaaGreatDoorZRefA
import Derived.Test.YtdcdabbepnahnaaGreatDoorZBindW
import Derived.Test.YtdcdabbepnahnaaGreatDoorZRefW
import Derived.Test.YtdcdabbepnahnaaGreatDoorZRowG
import Derived.Test.YtdcdabbepnahnaaGreatDoorZBind2
import Derived.Test.YtdcdabbepnahnaaGreatDoorZFixW
import Derived.Test.YtdcdabbepnahnaaGreatDoorZRSimpW
set_option linter.unusedVariables false
set_option linter.unusedSimpArgs false
namespace Go.Proofs.YtdcdabbepnahnaaGreatDoor
open Go Go.RowKit Sy
theorem read_newS {w:World} {n:Nat} (x:Str) (h:w.heap.size=n):ReadX encS 1 (w.alloc (.cells #[.string (bs x)] 9)) (some ⟨n,0,none⟩) [x]:=fun _=>by
 refine⟨n,0,rfl,by rw[←h];simp[go_sem],fun k y hk i u hu=>?_⟩
 have h0:k=0:=by
  have:=(List.getElem?_eq_some_iff.1 hk).1
  simp at this
  exact this
 subst h0
 obtain rfl:x=y:=by simpa using hk
 subst h
 rw[cell_of_row _ w.heap.size _ _ _ _ (heap_alloc_new w _)]
 simpa[encS] using hu
theorem ResP.put1 {w:World} {P:Nat} {A:Option Addr} {n c:Nat} {re r2:Bool} (h:ResP w P A n c re):ResP (w.setCell ⟨P,1,none⟩ (.bool r2)) P A n c r2:=by
 obtain⟨cs,hh⟩:=h.kind
 exact⟨⟨cs.setIfInBounds 1 (.bool r2),by simp[World.setCell,Array.getElem?_modify,hh]⟩,(World.cell?_setCell_other _ _ _ _ (by simp)).trans h.p0,World.cell?_setCell_same' _ _ _ (by rw[h.p1];rfl)⟩
set_option maxRecDepth 100000 in
set_option maxHeartbeats 16000000 in
theorem rsubst_c (p q m:Pat) (n nb c lc:Nat) (re:Bool) (A LA:Option Addr) (w:World) (h:Sy.Inner p q m) (hq:PatA w A c q) (hn:q.parts.length=n) (hre:q.rest=re) (hb:BindsR w LA (bindP p m)) (hnb:(bindP p m).length=nb) (hlc:nb≤lc) (hlc2:lc≤9223372036854775807) (hml:∀x∈m.parts,x.length≤16384) :
  Calls Tryz.prog 103 #[.agg #[.slice A n c,.bool re],.slice LA nb lc] w fun e w'=>SubEnd (carryP p q m) w.heap.size e w'∧Calm w w':=by
 have hnl:=hq.r.len
 rw[hn] at hnl
 have hn12:n≤12:=by have:=(patErr_form h.tw.rp).2.2;omega
 have hn0:0 < n:=by have:=(patErr_form h.tw.rp).1;omega
 obtain⟨s,hs⟩:∃s,starN q=s:=⟨_,rfl⟩
 have hsn:s≤n:=by rw[←hs,←hn];unfold starN;exact List.length_filter_le _ _
 have hnbs:=bindP_len h
 rw[hnb,hs,hre] at hnbs
 obtain⟨w1,hw1⟩:∃w1,w1=(w.alloc (.cells #[.slice A n c,.bool re] 51)).alloc (.cells #[.slice none 0 0,.bool false] 51):=⟨_,rfl⟩
 have hc1:Calm w w1:=by rw[hw1];exact ((Calm.refl w).alloc _).alloc _
 have hbox:BoxZ w1 w.heap.size A n c re:=by
  rw[hw1]
  exact⟨by simp,by simp[go_sem],by simp[go_sem],by simp[go_sem],by simp[go_sem],fun o=>by simp[go_sem]⟩
 have KK:Hid (∀W,Calm w1 W→Calls Tryz.prog 94 #[.agg #[.slice A n c,.bool re]] W fun e w'=>e=.returned (.int .i64 0)∧Calm W w'):=fun W hW=>rcheckA_c q n c re A W ((hq.calm hc1).calm hW) h.tw.rp hn hre
 have KW:Hid (∀W,Calm w1 W→Calls Tryz.prog 145 #[.agg #[.slice A n c,.bool re]] W fun e w'=>e=.returned (.int .i64 nb)∧Calm W w'):=fun W hW=>by
  have:=wild_c q A c W (StrsR.toG ((hq.calm hc1).calm hW).r) hq.r.each h.tw.rp
  rw[hn,hre,hs,←hnbs] at this
  exact this
 have hok:∀x∈q.parts,partOk x=true:=allOk_of h.tw.rp
 have HOk:=Lib.hid hok
 have HW:=Lib.hid hw1
 have HC:=Lib.hid hc1
 have HB:=Lib.hid hbox
 have HN:=Lib.hid (And.intro hn (And.intro hre (And.intro hs hnb)))
 have HQ:=Lib.hid (hq.calm hc1)
 have HBi:=Lib.hid (hb.calm hc1)
 have HI:=Lib.hid h
 have HMl:=Lib.hid hml
 have hsz:w.heap.size+2≤w1.heap.size:=hbox.size
 have hnn:((nb:Int) != (nb:Int))=false:=by simp
 clear hw1 hc1 hbox hn hre hs hnb hq hb h hml hok
 go_enter Tryz.func103,Tryz.ntmps103
 have key:(re=true∧nb=s+1)∨(re=false∧nb=s):=by
  cases re with
  |true=>exact .inl ⟨rfl,by simpa using hnbs⟩
  |false=>exact .inr ⟨rfl,by simpa using hnbs⟩
 clear hnbs
 rcases key with⟨rfl,hnbe⟩ | ⟨rfl,hnbe⟩
 all_goals
  have HNb:=Lib.hid hnbe
  clear hnbe
  go_wp2_with (first
   |(go_at_call 94;rw[←HW.out];refine (KK.out w1 (Calm.refl _)).mono ?_;rintro e w2 ⟨rfl,hc2⟩;have b2:=HB.out.calm hc2;have x0:=b2.x0;have x1:=b2.x1)
   |(go_at_call 145;refine (KW.out _ hc2).mono ?_;rintro e w3 ⟨rfl,hc3⟩;have b3:=(HB.out.calm (hc2.trans hc3)).calm ((Calm.refl w3).alloc (.cells #[.slice none 0 0,.bool false] 51));have y0:=b3.x0))
  have HC3:Hid (Calm w1 w3):=hc2.trans hc3
  obtain⟨P,hP⟩:∃P,w3.heap.size=P:=⟨_,rfl⟩
  have hres:=ResP.new w3 none 0 0 false
  obtain⟨w4,hw4⟩:∃w4,w4=w3.alloc (.cells #[.slice none 0 0,.bool false] 51):=⟨_,rfl⟩
  rw[hP,←hw4] at hres
  rw[←hw4,hP]
  have HRes:=Lib.hid hres
  have HC4:Hid (Calm w3 w4):=by
   show Below _ _ _
   rw[hw4]
   exact (Calm.refl _).alloc _
  have hPw:w.heap.size+2≤P:=by have:=HC3.out.size;omega
  obtain⟨cs,hcs⟩:∃cs,capsR p.parts m.parts=cs:=⟨_,rfl⟩
  have HCs:=Lib.hid hcs
  have HP:=Lib.hid hP
  clear hw4 hres hP hcs KK KW hc2 hc3 b2 b3 x0 x1 y0 hnn
  go_loopw [8,32] (fun u8 u wr=>∃(k T c9:Nat) (A9:Option Addr),k≤n∧u=.int .i64 k∧u8=.int .i64 T∧T≤k∧Hid (starTo q k=T)∧k≤c9∧c9≤9223372036854775807∧Hid (OwnX encS 1 9 w3 wr (.slice A9 k c9) ((fillR q.parts cs).take k))∧Hid (ResP wr P A9 k c9 false)) (fun _ u _=>n - (intOf u).toNat)
  case atStart=>exact⟨0,0,0,none,Nat.zero_le _,rfl,rfl,Nat.le_refl _,rfl,Nat.le_refl _,by omega,OwnX.nil HC4.out,HRes.out⟩
  case round=>
   obtain⟨k,T,c9,A9,hk,rfl,rfl,hT,HT,hc9,hc9m,HO,HRs⟩:=hrel
   obtain⟨wq,rfl⟩:∃wq,wq=wr:=⟨_,rfl⟩
   have HCq:Hid (Calm w1 wq):=HC3.out.trans HO.out.calm
   have HTl:Hid (((fillR q.parts cs).take k).length=k):=by
    show _=_
    rw[List.length_take,fillR_len,HN.out.1]
    omega
   have hne0:some P≠(Value.slice A9 k c9).ownBlock:=HO.out.kindne (by decide) HRs.out.kind
   have HNe:=Lib.hid hne0
   have p0:=HRs.out.p0
   clear hne0
   by_cases hlt:k < n
   ·obtain⟨b,ob,x,rfl,hb,hx,hxl,hcx⟩:=(HQ.out.calm HCq.out).r.get (k:=k) (by rw[HN.out.1];exact hlt)
    have hfs:=fillR_step (cs:=cs) hx
    rw[HT.out] at hfs
    have hst:=starTo_succ hx
    rw[HT.out] at hst
    have hso:=starOk_iff (HOk.out x (List.mem_of_getElem? hx))
    have hxs:=bs_size x
    have hxe:x=pAt q k:=by
     rw[pAt_get (by rw[HN.out.1];exact hlt)] at hx
     exact (Option.some.inj hx).symm
    have HFs:=Lib.hid hfs
    have HSt:=Lib.hid hst
    have HXe:=Lib.hid hxe
    clear hx hfs hst hxe
    obtain⟨st,hs⟩:∃st,isStar x=st:=⟨_,rfl⟩
    rw[hs] at hso
    have HS:=Lib.hid hs
    clear hs
    cases st with
    |false=>
     have KS:Hid (∀W,Calls Tryz.prog 144 #[.string (bs x)] W fun e w'=>e=.returned (.tuple #[.string (bs []),.bool false])∧W=w'):=fun W=>star_v x false [] W (by omega) hso (by rw[starSuf,hso];rfl)
     have HF2:Hid ((fillR q.parts cs).take (k+1)=(fillR q.parts cs).take k++[x]):=by
      show _=_
      rw[HFs.out,HS.out]
      rfl
     have HT2:Hid (starTo q (k+1)=T):=by
      show _=_
      rw[HSt.out,HS.out]
      rfl
     clear hso
     go_wp2_with (first
      |(go_at_call 144;refine (KS.out _).mono ?_;rintro e w5 ⟨rfl,rfl⟩)
      |(at_builtin;refine wpList_append_xs (enc:=encS) (K:=1) (T:=9) Tryz.underlying41 info_strS rfl (by decide) (by decide) encS_len encS_one rfl (.tmp 72) (.tmp 74) rfl w3 _ ((fillR q.parts cs).take k) [x] rfl (HO.out.to ((Calm.refl _).alloc _)) _ 1 1 rfl rfl (read_newS x rfl) (by rw[HTl.out];omega) ?_;intro v7 w7 hown7 hg7;obtain⟨A7,c7,hv7⟩:=hown7.len_shape;rw[List.length_append,HTl.out,List.length_singleton] at hv7;subst hv7;have hR7:=(HRs.out.calm ((Calm.refl _).alloc (.cells #[.string (bs x)] 9))).block (hg7.block P ((HRs.out.calm ((Calm.refl _).alloc (.cells #[.string (bs x)] 9))).lt) HNe.out);have hP70:=hR7.p0;have hP7f:=hR7.f 0))
     go_roundw
     case rel=>
      have hne7:some P≠(Value.slice A7 (k+1) c7).ownBlock:=hown7.kindne (by decide) hR7.kind
      have h9:=hown7.setX (p:=⟨P,0,none⟩) (.slice A7 (k+1) c7) (by show w3.heap.size≤P;rw[HP.out];exact Nat.le_refl _) hne7
      rcases h9.row encS_len with⟨_,e0⟩ | ⟨g,c5,e1,g1,g2,_,_⟩
      ·exact absurd (congrArg List.length e0) (by simp)
      ·simp only[List.length_append,HTl.out,List.length_singleton,Value.slice.injEq,true_and] at e1 g1
       obtain⟨rfl,rfl⟩:=e1
       exact⟨k+1,T,c7,_,by omega,by go_num,rfl,by omega,HT2.out,g1,g2,by show OwnX _ _ _ _ _ _ _;rw[HF2.out];exact h9,hR7.put⟩
     case measure=>simp[intOf];omega
    |true=>
     have hTs:=starTo_lt (q:=q) (k:=k) (by rw[←HXe.out];exact HS.out) (by rw[HN.out.1];exact hlt)
     rw[HT.out,HN.out.2.2.1] at hTs
     have hTb:T < nb:=by have:=HNb.out;omega
     obtain⟨b0,o0,y,rfl,hbz,hby,d0,d1,hpy⟩:=(HBi.out.calm HCq.out).get (k:=T) (by rw[HN.out.2.2.2];exact hTb)
     have hcap:=bindP_cap HI.out (t:=T) (by rw[HN.out.2.2.1];exact hTs)
     rw[HCs.out] at hcap
     obtain⟨_,_,hpk⟩:=bindP_ok HI.out hby
     obtain⟨cap,hcapv⟩:∃cap,cs.getD T []=cap:=⟨_,rfl⟩
     rw[hcapv] at hcap
     have hyp:y.p=⟨[cap],false⟩:=by
      rw[hby] at hcap
      exact Option.some.inj hcap
     have hyr:=hpy.r
     rw[hyp] at hyr d0 d1 hpk
     obtain⟨yb,yo,hyA,hyb,hyc⟩:=hyr.at_ (by simp)
     have e0:=hyc 0 cap rfl
     rw[Nat.add_zero] at e0
     have hcok:partOk cap=true:=hpk cap (by simp)
     obtain⟨AY,cy,py⟩:=y
     simp only[List.length_singleton] at hyA d0 d1
     subst hyA
     have hcl:cap.length≤16384:=hyr.each cap (by simp)
     have hx1:1≤x.length:=by
      have:=HS.out
      cases x with
      |nil=>cases this
      |cons a rr=>simp
     obtain⟨xt,hxt⟩:∃xt,x.tail=xt:=⟨_,rfl⟩
     have KS:Hid (∀W,Calls Tryz.prog 144 #[.string (bs x)] W fun e w'=>e=.returned (.tuple #[.string (bs xt),.bool true])∧W=w'):=fun W=>star_v x true xt W (by omega) hso (by rw[starSuf,hso];exact hxt)
     have KPt:Hid (∀W,Calls Tryz.prog 140 #[.string (bs cap)] W fun e w'=>e=.returned (.bool true)∧W=w'):=fun W=>part_v cap true W (by omega) hcok
     obtain⟨z,hz⟩:∃z,cap++xt=z:=⟨_,rfl⟩
     have hcat:bs cap++bs xt=bs z:=by rw[←hz,bs_append]
     have hcaps:=bs_size cap
     have htl:xt.length≤16384:=by rw[←hxt,List.length_tail];omega
     have htls:=bs_size xt
     have hs1:¬9223372036854775807 < cap.length+xt.length:=by omega
     have hs2:cap.length+xt.length≤9223372036854775807:=by omega
     have hs3:¬(9223372036854775807:Int) < ((cap.length:Int)+(xt.length:Int)):=by omega
     have HF2:Hid ((fillR q.parts cs).take (k+1)=(fillR q.parts cs).take k++[z]):=by
      show _=_
      rw[HFs.out,HS.out,if_pos rfl,hcapv,hxt,hz]
     have HT2:Hid (starTo q (k+1)=T+1):=by
      show _=_
      rw[HSt.out,HS.out]
      rfl
     have hab:Calm wq (wq.alloc (.cells #[.slice (some ⟨yb,yo,none⟩) 1 cy,.bool false] 201)):=(Calm.refl _).alloc _
     have e1:=Calm.at_ hab e0 hyb
     have p1:=(HRs.out.calm hab).p0
     have HAb:=Lib.hid hab
     have hT1:(0:Int)≤(T:Int):=by omega
     have hT2:(T:Int) < (nb:Int):=by omega
     have hk12:T≤12:=by omega
     clear hso hcap hby hpk hpy hyp hyr hyc hcapv hxt hz hab hcok
     go_wp2_with (first
      |(go_at_call 144;refine (KS.out _).mono ?_;rintro e w5 ⟨rfl,rfl⟩)
      |(go_at_call 140;refine (KPt.out _).mono ?_;rintro e w5 ⟨rfl,rfl⟩)
      |(at_builtin;refine wpList_append_xs (enc:=encS) (K:=1) (T:=9) Tryz.underlying41 info_strS rfl (by decide) (by decide) encS_len encS_one rfl (.tmp 72) (.tmp 74) rfl w3 _ ((fillR q.parts cs).take k) [z] rfl (HO.out.to (HAb.out.alloc _)) _ 1 1 rfl rfl (read_newS z (by simp)) (by rw[HTl.out];omega) ?_;intro v7 w7 hown7 hg7;obtain⟨A7,c7,hv7⟩:=hown7.len_shape;rw[List.length_append,HTl.out,List.length_singleton] at hv7;subst hv7;have hR7:=(HRs.out.calm (HAb.out.alloc (.cells #[.string (bs z)] 9))).block (hg7.block P ((HRs.out.calm (HAb.out.alloc (.cells #[.string (bs z)] 9))).lt) HNe.out);have hP70:=hR7.p0;have hP7f:=hR7.f 0))
     go_roundw
     case rel=>
      have hne7:some P≠(Value.slice A7 (k+1) c7).ownBlock:=hown7.kindne (by decide) hR7.kind
      have h9:=hown7.setX (p:=⟨P,0,none⟩) (.slice A7 (k+1) c7) (by show w3.heap.size≤P;rw[HP.out];exact Nat.le_refl _) hne7
      rcases h9.row encS_len with⟨_,e0⟩ | ⟨g,c5,e1,g1,g2,_,_⟩
      ·exact absurd (congrArg List.length e0) (by simp)
      ·simp only[List.length_append,HTl.out,List.length_singleton,Value.slice.injEq,true_and] at e1 g1
       obtain⟨rfl,rfl⟩:=e1
       exact⟨k+1,T+1,c7,_,by omega,by go_num,by go_num,by omega,HT2.out,g1,g2,by show OwnX _ _ _ _ _ _ _;rw[HF2.out];exact h9,hR7.put⟩
     case measure=>simp[intOf];omega
   ·obtain rfl:k=n:=by omega
    have hTS:T=s:=by
     have h2:=starTo_all q
     rw[HN.out.1,HN.out.2.2.1,HT.out] at h2
     exact h2
    have hfe:(fillR q.parts cs).take k=fillR q.parts (capsR p.parts m.parts):=by
     rw[←HN.out.1,fillR_take_all q cs,HCs.out]
    have HFe:=Lib.hid hfe
    have HEach:Hid (∀x∈(carryP p q m).parts,x.length≤32768):=carry_each HI.out (L:=16384) (M:=16384) HQ.out.r.each HMl.out
    have p1:=HRs.out.p1
    have hb9:=HB.out.calm HCq.out
    have x1:=hb9.x1
    have z0:=hb9.z0
    have z1:=hb9.z1
    have f0:=hb9.fz 0
    have f1:=hb9.fz 1
    clear hb9 hfe
    have HNS:Hid (NewS wq w3.heap.size A9 c9 ((fillR q.parts cs).take k)):=by
     refine HO.out.strsU (by rw[HTl.out];omega) (fun x hx=>?_)
     have h2:=HEach.out x (by rw[HI.out.parts,←HFe.out];exact List.mem_append_left _ hx)
     omega
    have hw3:w.heap.size+2≤w3.heap.size:=by rw[HP.out];exact hPw
    have hc8:∀(W:World),Calm w1 W→∀u0 u1,Hid (Calm w ((W.setCell ⟨w.heap.size+1,0,none⟩ u0).setCell ⟨w.heap.size+1,1,none⟩ u1)):=fun W hW u0 u1=>
     Below.setCell (Below.setCell (HC.out.trans hW) (by show w.heap.size≤w.heap.size+1;omega) _) (by show w.heap.size≤w.heap.size+1;omega) _
    have hs8:∀(W:World) (A9:Option Addr) (c9:Nat) (ls:List Str),NewS W w3.heap.size A9 c9 ls→∀u0 u1,Hid (NewS ((W.setCell ⟨w.heap.size+1,0,none⟩ u0).setCell ⟨w.heap.size+1,1,none⟩ u1) w.heap.size A9 c9 ls):=fun W A9 c9 ls hW u0 u1=>
     ((hW.set (p:=⟨w.heap.size+1,0,none⟩) u0 (by show w.heap.size+1 < _;omega)).set (p:=⟨w.heap.size+1,1,none⟩) u1 (by show w.heap.size+1 < _;omega)).mono (by omega)
    have HC8:=Lib.hid hc8
    have HS8:=Lib.hid hs8
    clear hc8 hs8
    have hgt:¬(12:Int) < (k:Int):=by omega
    first
    |have hrf:q.rest=false:=HN.out.2.1
     have hrr:Hid ((carryP p q m).parts=(fillR q.parts cs).take k):=by
      show _=_
      rw[HI.out.parts,hrf,HFe.out]
      simp
     have hcr:Hid ((carryP p q m).rest=false):=by
      show (q.rest && m.rest)=false
      rw[hrf]
      rfl
     clear hrf hTS
     go_wp2_with fail
     refine bodyPost_ret (v:=.tuple #[.agg #[.slice A9 k c9,.bool false],.int .i64 0]) ?_ rfl ⟨.inr ⟨by rw[hrr.out,HTl.out];omega,A9,c9,by rw[hrr.out,HTl.out,hcr.out],by rw[hrr.out];exact (HS8.out _ _ _ _ HNS.out _ _).out⟩,(HC8.out _ HCq.out _ _).out⟩
     rw[results_cell_slot rfl]
     go_simp
    |have hrt:q.rest=true:=HN.out.2.1
     have hTb:T < nb:=by have:=HNb.out;omega
     have hbl:=bindP_last HI.out hrt
     rw[HN.out.2.2.1,←hTS] at hbl
     obtain⟨b0,o0,y,rfl,hbz,hby,d0,d1,hpy⟩:=(HBi.out.calm HCq.out).get (k:=T) (by rw[HN.out.2.2.2];exact hTb)
     have hyp:y.p=⟨m.parts.drop p.parts.length,m.rest⟩:=by
      rw[hbl] at hby
      exact (Option.some.inj hby).symm
     obtain⟨_,g2,g3⟩:=bindP_ok HI.out hby
     obtain⟨ml,hml2⟩:∃ml,m.parts.drop p.parts.length=ml:=⟨_,rfl⟩
     obtain⟨d,hd⟩:∃d,ml.length=d:=⟨_,rfl⟩
     obtain⟨mr,hmr⟩:∃mr,m.rest=mr:=⟨_,rfl⟩
     obtain⟨AY,cy,py⟩:=y
     simp only at hyp d0 d1 hpy g2 g3
     subst hyp
     simp only[hml2,hd,hmr] at d0 d1 g2 g3
     have HPy:Hid (StrsR wq AY ml):=by
      have:=hpy.r
      simp only[hml2] at this
      exact this
     have hdl:=HPy.out.len
     rw[hd] at hdl
     have hcy:d≤cy∧cy≤9223372036854775807:=by
      have h1:=hpy.room
      simp only[hml2,hd] at h1
      exact⟨h1,hpy.cap⟩
     have hcpl:Hid ((carryP p q m).parts=(fillR q.parts cs).take k++ml):=by
      show _=_
      rw[HI.out.parts,hrt,if_pos rfl,HFe.out,hml2]
     have hcpn:Hid ((carryP p q m).parts.length=k+d):=by
      show _=_
      rw[hcpl.out,List.length_append,HTl.out,hd]
     have hcr:Hid ((carryP p q m).rest=mr):=by
      show (q.rest && m.rest)=mr
      rw[hrt,hmr]
      rfl
     have HD:=Lib.hid hd
     have HG3:=Lib.hid g3
     have hemp:(((d:Int) == 0)=true∧mr=true)∨((d:Int) == 0)=false:=by
      by_cases h0:d=0
      ·exact .inl ⟨by rw[beq_iff_eq];omega,g2 h0⟩
      ·exact .inr (by rw[beq_eq_false_iff_ne];omega)
     have hT1:(0:Int)≤(T:Int):=by omega
     have hT2:(T:Int) < (nb:Int):=by omega
     have hdb:(d:Int)≤16384:=by omega
     clear hbl hby hpy hml2 hd hmr hrt g2 g3 hTS
     rcases hemp with⟨hd0,rfl⟩ | hd0
     ·go_wp2_with fail
      obtain⟨wb,hwb⟩:∃wb,wb=wq.alloc (.cells #[.slice AY d cy,.bool true] 201):=⟨_,rfl⟩
      rw[←hwb]
      have hab:Calm wq wb:=by
       show Below _ _ _
       rw[hwb]
       exact (Calm.refl _).alloc _
      obtain⟨B,hB⟩:∃B,wq.heap.size=B:=⟨_,rfl⟩
      have q0:wb.cell? ⟨B,0,none⟩=some (.slice AY d cy):=by rw[hwb,←hB];simp
      have q1:wb.cell? ⟨B,1,none⟩=some (.bool true):=by rw[hwb,←hB];simp
      have hBl:B < wb.heap.size:=by rw[hwb,←hB];simp
      rw[hB]
      have HAb:=Lib.hid hab
      have HQ01:=Lib.hid (And.intro q0 (And.intro q1 hBl))
      have HBP:Hid (P < B):=by
       show P < B
       rw[←hB]
       exact HRs.out.lt
      have HOb:Hid (OwnX encS 1 9 w3 wb (.slice A9 k c9) ((fillR q.parts cs).take k)):=HO.out.to hab
      have HRb:Hid (ResP wb P A9 k c9 false):=HRs.out.calm hab
      have HPb:Hid (StrsR wb AY ml):=HPy.out.calm hab
      have HBO:Hid (some B≠(Value.slice A9 k c9).ownBlock):=fun e=>by
       have:=HO.out.blk_lt e
       omega
      have hB3:w3.heap.size≤B:=by rw[←hB];exact HO.out.calm.size
      clear hwb hB hab p0 p1 x1 z0 z1 f0 f1 hbz d0 d1 hT1 hT2
      go_loopw [97] (fun u wr=>∃j:Nat,j≤d∧u=.int .i64 j∧wr=wb) (fun u _=>d - (intOf u).toNat)
      case atStart=>exact⟨0,Nat.zero_le _,rfl,rfl⟩
      case round=>
       obtain⟨j,hj,rfl,rfl⟩:=hrel
       by_cases hlt2:j < d
       ·obtain⟨b6,o6,y6,rfl,hb6,hy6,hyl6,hc6⟩:=HPb.out.get (k:=j) (by rw[HD.out];exact hlt2)
        have KPt:Hid (∀W,Calls Tryz.prog 140 #[.string (bs y6)] W fun e w'=>e=.returned (.bool true)∧W=w'):=fun W=>part_v y6 true W (by omega) (HG3.out y6 (List.mem_of_getElem? hy6))
        have hys:=bs_size y6
        clear hy6
        go_wp2_with (go_at_call 140;refine (KPt.out _).mono ?_;rintro e w5 ⟨rfl,rfl⟩)
        go_roundw
        case rel=>exact⟨j+1,by omega,by go_num,by trivial⟩
        case measure=>simp[intOf];omega
       ·obtain rfl:j=d:=by omega
        have p0:=HRb.out.p0
        have q0:=HQ01.out.1
        have q1:=HQ01.out.2.1
        go_wp2_with fail
        go_region_law ((refine step_append_xs (enc:=encS) (K:=1) (T:=9) Tryz.underlying41 info_strS rfl (by decide) (by decide) encS_len encS_one rfl (.tmp 107) (.tmp 109) rfl w3 (.slice A9 k c9) ((fillR q.parts cs).take k) ml (by simp[Act.eval,Act.put]) (HOb.out.to (by first | exact Below.drew (Calm.refl _) | exact Calm.refl _)) AY j cy (by simp[Act.eval,Act.put]) HD.out (HPb.out.readS.calm (by first | exact Below.drew (Calm.refl _) | exact Calm.refl _)) (by rw[HTl.out];omega) ?_;intro v8 w8 hown8 hg8;obtain⟨A8,c8,hv8⟩:=hown8.len_shape;rw[List.length_append,HTl.out,HD.out] at hv8;subst hv8;have hR8:=(HRb.out.calm (Below.drew (Calm.refl _))).block (hg8.block P HRb.out.lt HNe.out);have hP80:=hR8.p0;have hP8f:=hR8.f 0;have hP8g:=hR8.f 1;have hP81:=hR8.p1;have hB8:=hg8.block B HQ01.out.2.2 HBO.out;have hB81:=(World.cell?_of_block (a:=⟨B,1,none⟩) hB8).trans HQ01.out.2.1))
        all_goals
         obtain⟨w9,hw9⟩:∃w9,w9=(w8.setCell ⟨P,0,none⟩ (.slice A8 (k+j) c8)).setCell ⟨P,1,none⟩ (.bool true):=⟨_,rfl⟩
         rw[←hw9]
         have hne:some P≠(Value.slice A8 (k+j) c8).ownBlock:=hown8.kindne (by decide) hR8.kind
         have hP3:w3.heap.size≤P:=by rw[HP.out];exact Nat.le_refl _
         have HO9:Hid (OwnX encS 1 9 w3 w9 (.slice A8 (k+j) c8) ((fillR q.parts cs).take k++ml)):=by
          show OwnX _ _ _ _ _ _ _
          rw[hw9]
          exact (hown8.setX (p:=⟨P,0,none⟩) _ hP3 hne).setX (p:=⟨P,1,none⟩) _ hP3 hne
         have HR9:Hid (ResP w9 P A8 (k+j) c8 true):=by
          show ResP _ _ _ _ _ _
          rw[hw9]
          exact hR8.put.put1
         have HC9:Hid (Calm w1 w9):=HC3.out.trans HO9.out.calm
         have p0:=HR9.out.p0
         have p1:=HR9.out.p1
         have hbz:=HB.out.calm HC9.out
         have z0:=hbz.z0
         have z1:=hbz.z1
         have f0:=hbz.fz 0
         have f1:=hbz.fz 1
         have HN9:Hid (NewS w9 w3.heap.size A8 c8 (carryP p q m).parts):=by
          show NewS _ _ _ _ _
          rw[hcpl.out]
          refine HO9.out.strsU (by rw[←hcpl.out,hcpn.out];omega) (fun x hx=>?_)
          have h2:=HEach.out x (by rw[hcpl.out];exact hx)
          omega
         clear hbz hw9 hne hown8 hg8 hR8 hP80 hP8f hP8g hP81 hB8 hB81 HRb HOb HPb hgt hP3 q0 q1
         have h12:12 < k+j∨k+j≤12:=by omega
         rcases h12 with h12 | h12
         ·have hgt:(12:Int) < (k:Int)+(j:Int):=by omega
          go_wp2_with fail
          refine bodyPost_ret (v:=.tuple #[.agg #[.slice none 0 0,.bool false],.int .i64 31]) ?_ rfl ⟨.inl ⟨by rw[hcpn.out];exact h12,rfl⟩,(HC8.out _ HC9.out _ _).out⟩
          rw[results_cell_slot rfl]
          go_simp
         ·have hgt:¬(12:Int) < (k:Int)+(j:Int):=by omega
          go_wp2_with fail
          refine bodyPost_ret (v:=.tuple #[.agg #[.slice A8 (k+j) c8,.bool true],.int .i64 0]) ?_ rfl ⟨.inr ⟨by rw[hcpn.out];exact h12,A8,c8,by rw[hcpn.out,hcr.out],(HS8.out _ _ _ _ HN9.out _ _).out⟩,(HC8.out _ HC9.out _ _).out⟩
          rw[results_cell_slot rfl]
          go_simp
     ·go_wp2_with fail
      obtain⟨wb,hwb⟩:∃wb,wb=wq.alloc (.cells #[.slice AY d cy,.bool mr] 201):=⟨_,rfl⟩
      rw[←hwb]
      have hab:Calm wq wb:=by
       show Below _ _ _
       rw[hwb]
       exact (Calm.refl _).alloc _
      obtain⟨B,hB⟩:∃B,wq.heap.size=B:=⟨_,rfl⟩
      have q0:wb.cell? ⟨B,0,none⟩=some (.slice AY d cy):=by rw[hwb,←hB];simp
      have q1:wb.cell? ⟨B,1,none⟩=some (.bool mr):=by rw[hwb,←hB];simp
      have hBl:B < wb.heap.size:=by rw[hwb,←hB];simp
      rw[hB]
      have HAb:=Lib.hid hab
      have HQ01:=Lib.hid (And.intro q0 (And.intro q1 hBl))
      have HBP:Hid (P < B):=by
       show P < B
       rw[←hB]
       exact HRs.out.lt
      have HOb:Hid (OwnX encS 1 9 w3 wb (.slice A9 k c9) ((fillR q.parts cs).take k)):=HO.out.to hab
      have HRb:Hid (ResP wb P A9 k c9 false):=HRs.out.calm hab
      have HPb:Hid (StrsR wb AY ml):=HPy.out.calm hab
      have HBO:Hid (some B≠(Value.slice A9 k c9).ownBlock):=fun e=>by
       have:=HO.out.blk_lt e
       omega
      have hB3:w3.heap.size≤B:=by rw[←hB];exact HO.out.calm.size
      clear hwb hB hab p0 p1 x1 z0 z1 f0 f1 hbz d0 d1 hT1 hT2
      go_loopw [97] (fun u wr=>∃j:Nat,j≤d∧u=.int .i64 j∧wr=wb) (fun u _=>d - (intOf u).toNat)
      case atStart=>exact⟨0,Nat.zero_le _,rfl,rfl⟩
      case round=>
       obtain⟨j,hj,rfl,rfl⟩:=hrel
       by_cases hlt2:j < d
       ·obtain⟨b6,o6,y6,rfl,hb6,hy6,hyl6,hc6⟩:=HPb.out.get (k:=j) (by rw[HD.out];exact hlt2)
        have KPt:Hid (∀W,Calls Tryz.prog 140 #[.string (bs y6)] W fun e w'=>e=.returned (.bool true)∧W=w'):=fun W=>part_v y6 true W (by omega) (HG3.out y6 (List.mem_of_getElem? hy6))
        have hys:=bs_size y6
        clear hy6
        go_wp2_with (go_at_call 140;refine (KPt.out _).mono ?_;rintro e w5 ⟨rfl,rfl⟩)
        go_roundw
        case rel=>exact⟨j+1,by omega,by go_num,by trivial⟩
        case measure=>simp[intOf];omega
       ·obtain rfl:j=d:=by omega
        have p0:=HRb.out.p0
        have q0:=HQ01.out.1
        have q1:=HQ01.out.2.1
        go_wp2_with fail
        go_region_law ((refine step_append_xs (enc:=encS) (K:=1) (T:=9) Tryz.underlying41 info_strS rfl (by decide) (by decide) encS_len encS_one rfl (.tmp 107) (.tmp 109) rfl w3 (.slice A9 k c9) ((fillR q.parts cs).take k) ml (by simp[Act.eval,Act.put]) (HOb.out.to (by first | exact Below.drew (Calm.refl _) | exact Calm.refl _)) AY j cy (by simp[Act.eval,Act.put]) HD.out (HPb.out.readS.calm (by first | exact Below.drew (Calm.refl _) | exact Calm.refl _)) (by rw[HTl.out];omega) ?_;intro v8 w8 hown8 hg8;obtain⟨A8,c8,hv8⟩:=hown8.len_shape;rw[List.length_append,HTl.out,HD.out] at hv8;subst hv8;have hR8:=(HRb.out.calm (Below.drew (Calm.refl _))).block (hg8.block P HRb.out.lt HNe.out);have hP80:=hR8.p0;have hP8f:=hR8.f 0;have hP8g:=hR8.f 1;have hP81:=hR8.p1;have hB8:=hg8.block B HQ01.out.2.2 HBO.out;have hB81:=(World.cell?_of_block (a:=⟨B,1,none⟩) hB8).trans HQ01.out.2.1))
        all_goals
         obtain⟨w9,hw9⟩:∃w9,w9=(w8.setCell ⟨P,0,none⟩ (.slice A8 (k+j) c8)).setCell ⟨P,1,none⟩ (.bool mr):=⟨_,rfl⟩
         rw[←hw9]
         have hne:some P≠(Value.slice A8 (k+j) c8).ownBlock:=hown8.kindne (by decide) hR8.kind
         have hP3:w3.heap.size≤P:=by rw[HP.out];exact Nat.le_refl _
         have HO9:Hid (OwnX encS 1 9 w3 w9 (.slice A8 (k+j) c8) ((fillR q.parts cs).take k++ml)):=by
          show OwnX _ _ _ _ _ _ _
          rw[hw9]
          exact (hown8.setX (p:=⟨P,0,none⟩) _ hP3 hne).setX (p:=⟨P,1,none⟩) _ hP3 hne
         have HR9:Hid (ResP w9 P A8 (k+j) c8 mr):=by
          show ResP _ _ _ _ _ _
          rw[hw9]
          exact hR8.put.put1
         have HC9:Hid (Calm w1 w9):=HC3.out.trans HO9.out.calm
         have p0:=HR9.out.p0
         have p1:=HR9.out.p1
         have hbz:=HB.out.calm HC9.out
         have z0:=hbz.z0
         have z1:=hbz.z1
         have f0:=hbz.fz 0
         have f1:=hbz.fz 1
         have HN9:Hid (NewS w9 w3.heap.size A8 c8 (carryP p q m).parts):=by
          show NewS _ _ _ _ _
          rw[hcpl.out]
          refine HO9.out.strsU (by rw[←hcpl.out,hcpn.out];omega) (fun x hx=>?_)
          have h2:=HEach.out x (by rw[hcpl.out];exact hx)
          omega
         clear hbz hw9 hne hown8 hg8 hR8 hP80 hP8f hP8g hP81 hB8 hB81 HRb HOb HPb hgt hP3 q0 q1
         have h12:12 < k+j∨k+j≤12:=by omega
         rcases h12 with h12 | h12
         ·have hgt:(12:Int) < (k:Int)+(j:Int):=by omega
          go_wp2_with fail
          refine bodyPost_ret (v:=.tuple #[.agg #[.slice none 0 0,.bool false],.int .i64 31]) ?_ rfl ⟨.inl ⟨by rw[hcpn.out];exact h12,rfl⟩,(HC8.out _ HC9.out _ _).out⟩
          rw[results_cell_slot rfl]
          go_simp
         ·have hgt:¬(12:Int) < (k:Int)+(j:Int):=by omega
          go_wp2_with fail
          refine bodyPost_ret (v:=.tuple #[.agg #[.slice A8 (k+j) c8,.bool mr],.int .i64 0]) ?_ rfl ⟨.inr ⟨by rw[hcpn.out];exact h12,A8,c8,by rw[hcpn.out,hcr.out],(HS8.out _ _ _ _ HN9.out _ _).out⟩,(HC8.out _ HC9.out _ _).out⟩
          rw[results_cell_slot rfl]
          go_simp
theorem newS_one (w:World) (z:Str) (hz:z.length≤1048576):NewS (w.alloc (.cells #[.string (bs z)] 9)) w.heap.size (some ⟨w.heap.size,0,none⟩) 1 [z]:=
 (encS_own w z).strsU (by simp) (fun l hl=>by rw[List.mem_singleton] at hl;subst hl;exact hz)
theorem cap1_suf {x y:Str} (hs:isStar x=true) (h:inside y x=true):x.tail.length≤y.length:=by
 have hx:x≠[]:=fun e=>by rw[e] at hs;cases hs
 have hm:=inside_mt h hx
 have h1:=((mtch_star_iff hs).1 hm).1
 exact h1.length_le
set_option maxRecDepth 100000 in
set_option maxHeartbeats 8000000 in
theorem rbind_c (p q:Pat) (n m c c':Nat) (re rf:Bool) (A A':Option Addr) (w:World) (hp:PatA w A c p) (hq:PatA w A' c' q) (ep:patErr p=0) (eq:patErr q=0) (hn:p.parts.length=n) (hm:q.parts.length=m) (hre:p.rest=re) (hrf:q.rest=rf) (hin:insideP q p=true) :
  Calls Tryz.prog 102 #[.agg #[.slice A n c,.bool re],.agg #[.slice A' m c',.bool rf]] w fun e w'=>(∃A2 c2,e=.returned (.tuple #[.slice A2 (bindP p q).length c2,.bool true])∧BindsR w' A2 (bindP p q)∧(bindP p q).length≤c2∧c2≤9223372036854775807)∧Calm w w':=by
 have hnl:=hp.r.len
 have hml:=hq.r.len
 rw[hn] at hnl
 rw[hm] at hml
 obtain⟨hnm,hir⟩:=insideP_inR hin
 rw[hn,hm] at hnm
 have hm0:0 < m:=by have:=(patErr_form eq).1;omega
 obtain⟨w1,hw1⟩:∃w1,w1=(w.alloc (.cells #[.slice A n c,.bool re] 51)).alloc (.cells #[.slice A' m c',.bool rf] 51):=⟨_,rfl⟩
 have hc1:Calm w w1:=by rw[hw1];exact ((Calm.refl w).alloc _).alloc _
 have hbox:BoxP w1 w.heap.size A n c re A' m c' rf:=by
  rw[hw1]
  exact⟨by simp,by simp[go_sem],by simp[go_sem],by simp[go_sem],by simp[go_sem]⟩
 have KWi:Hid (∀W,Calm w1 W→Calls Tryz.prog 99 #[.agg #[.slice A' m c',.bool rf],.agg #[.slice A n c,.bool re]] W fun e w'=>e=.returned (.bool true)∧Calm W w'):=fun W hW=>rwithin_c q p true m n c' c rf re A' A W ((hq.calm hc1).calm hW) ((hp.calm hc1).calm hW) eq ep hm hn hrf hre hin
 have hin2:∀j,j < n→inside (pAt q j) (pAt p j)=true:=fun j hj=>((insideP_iff (allOk_of eq)).1 hin).2 j
 have hok:∀x∈p.parts,partOk x=true:=allOk_of ep
 have HIn:=Lib.hid hin2
 have HOk:=Lib.hid hok
 have HW:=Lib.hid hw1
 have HC:=Lib.hid hc1
 have HB:=Lib.hid hbox
 have HN:=Lib.hid (And.intro hn (And.intro hm (And.intro hre hrf)))
 have HP:=Lib.hid (hp.calm hc1)
 have HQ:=Lib.hid (hq.calm hc1)
 clear hw1 hc1 hbox hn hm hre hrf hp hq ep eq hin hir hin2 hok
 go_enter Tryz.func102,Tryz.ntmps102
 go_wp2_with (go_at_call 99;rw[←HW.out];refine (KWi.out w1 (Calm.refl _)).mono ?_;rintro e w2 ⟨rfl,hc2⟩;have b2:=HB.out.calm hc2;have x0:=b2.x0)
 have HC2:=Lib.hid hc2
 clear hc2 KWi b2
 go_loopw [6,19] (fun v u wr=>∃(k:Nat) (ys:List NewP),k≤n∧u=.int .i64 k∧Hid (OwnX encP 2 201 w2 wr v ys)∧Hid (ys.map (·.p)=(capsTo p q.parts k).map (fun c=>(⟨[c],false⟩:Pat)))∧Hid (∀y∈ys,SmallN wr w2.heap.size y)) (fun _ u _=>n - (intOf u).toNat)
 case atStart=>exact⟨0,[],Nat.zero_le _,rfl,OwnX.nil (Calm.refl _),(by rfl),fun y hy=>by cases hy⟩
 case round=>
  obtain⟨k,ys,hk,rfl,HO,HCa,HEa⟩:=hrel
  obtain⟨wq,rfl⟩:∃wq,wq=wr:=⟨_,rfl⟩
  have HCw:Hid (Calm w1 wq):=HC2.out.trans HO.out.calm
  by_cases hlt:k < n
  ·obtain⟨b,ob,x,rfl,hb,hx,hxl,hcx⟩:=(HP.out.calm HCw.out).r.get (k:=k) (by rw[HN.out.1];exact hlt)
   have hxe:x=pAt p k:=by
    rw[pAt_get (by rw[HN.out.1];exact hlt)] at hx
    exact (Option.some.inj hx).symm
   have HXe:=Lib.hid hxe
   have hxs:=bs_size x
   have hso:=starOk_iff (HOk.out x (List.mem_of_getElem? hx))
   obtain⟨st,hst⟩:∃st,isStar x=st:=⟨_,rfl⟩
   rw[hst] at hso
   have HSt:=Lib.hid hst
   clear hx hxe hst
   cases st with
   |false=>
    have KS:Hid (∀W,Calls Tryz.prog 144 #[.string (bs x)] W fun e w'=>e=.returned (.tuple #[.string (bs []),.bool false])∧W=w'):=fun W=>star_v x false [] W (by omega) hso (by rw[starSuf,hso];rfl)
    clear hso
    go_wp2_with (go_at_call 144;refine (KS.out _).mono ?_;rintro e w4 ⟨rfl,rfl⟩)
    go_roundw
    case rel=>exact⟨k+1,ys,by omega,by go_num,HO.out,by show _=_;rw[capsTo_lit (by rw[←HXe.out];exact HSt.out)];exact HCa.out,HEa.out⟩
    case measure=>simp[intOf];omega
   |true=>
    have hkm:k < m:=by omega
    obtain⟨bq,oq,y,rfl,hbq,hy,hyl,hcy⟩:=(HQ.out.calm HCw.out).r.get (k:=k) (by rw[HN.out.2.1];exact hkm)
    have hye:y=q.parts.getD k []:=by
     rw[getD_get (by rw[HN.out.2.1];exact hkm)] at hy
     exact (Option.some.inj hy).symm
    have hyq:pAt q k=y:=by
     rw[hye]
     unfold pAt
     rw[List.getD_eq_getElem?_getD,List.getD_eq_getElem?_getD,List.getElem?_eq_getElem (by rw[HN.out.2.1];exact hkm)]
     rfl
    have hle:=cap1_suf HSt.out (y:=y) (by rw[←hyq,HXe.out];exact HIn.out k hlt)
    obtain⟨t,ht⟩:∃t,x.tail=t:=⟨_,rfl⟩
    rw[ht] at hle
    have htl:t.length≤16384:=by omega
    have KS:Hid (∀W,Calls Tryz.prog 144 #[.string (bs x)] W fun e w'=>e=.returned (.tuple #[.string (bs t),.bool true])∧W=w'):=fun W=>star_v x true t W (by omega) hso (by rw[starSuf,hso];exact ht)
    have HZe:Hid (cap1 (pAt p k) (q.parts.getD k [])=y.take (y.length - t.length)):=by
     show _=_
     rw[←HXe.out,←hye]
     unfold cap1
     rw[ht]
    have hxz:=bs_take y (y.length - t.length) (by omega)
    obtain⟨z,hz⟩:∃z,y.take (y.length - t.length)=z:=⟨_,rfl⟩
    rw[hz] at HZe hxz
    have hzl:z.length≤16384:=by rw[←hz,List.length_take];omega
    have hi:((y.length:Int) - (t.length:Int))=((y.length - t.length:Nat):Int):=by omega
    have hys:=bs_size y
    have hts:=bs_size t
    have b2:=HB.out.calm HCw.out
    have y0:=b2.y0
    have hyk:ys.length≤k:=by
     have:=congrArg List.length HCa.out
     rw[List.length_map,List.length_map] at this
     have:=capsTo_length p q.parts k
     omega
    clear hso ht hy hye hyq hz b2
    go_wp2_with (first
     |(go_at_call 144;refine (KS.out _).mono ?_;rintro e w4 ⟨rfl,rfl⟩)
     |(at_builtin;refine wpList_append_xs (enc:=encP) (K:=2) (T:=201) Tryz.underlying165 info_bind rfl (by decide) (by decide) encP_len encP_one rfl (.tmp 36) (.tmp 46) rfl w2 _ ys [⟨some ⟨wq.heap.size,0,none⟩,1,⟨[z],false⟩⟩] rfl (HO.out.to (((Calm.refl _).alloc _).alloc _)) _ 1 1 rfl rfl (read_newB ⟨some ⟨wq.heap.size,0,none⟩,1,⟨[z],false⟩⟩ (by simp) rfl rfl) (by omega) ?_;intro v7 w7 hown7 hg7))
    go_roundw
    case rel=>
     have ho7:=(HO.out.to (((Calm.refl _).alloc (.cells #[.string (bs z)] 9)).alloc (.cells #[.slice (some ⟨wq.heap.size,0,none⟩) 1 1,.bool false] 201))).own
     refine⟨k+1,ys++[⟨some ⟨wq.heap.size,0,none⟩,1,⟨[z],false⟩⟩],by omega,by go_num,Lib.hid hown7,?_,?_⟩
     ·show _=_
      rw[capsTo_star (by rw[←HXe.out];exact HSt.out),List.map_append,List.map_append,HCa.out,HZe.out]
      rfl
     ·refine Lib.hid (fun y' hy'=>?_)
      rcases List.mem_append.1 hy' with hy' | hy'
      ·exact ((HEa.out y' hy').calm (((Calm.refl _).alloc _).alloc _)).own (by decide) ho7 hg7
      ·rw[List.mem_singleton] at hy'
       subst hy'
       have h1:SmallN (wq.alloc (.cells #[.string (bs z)] 9)) wq.heap.size ⟨some ⟨wq.heap.size,0,none⟩,1,⟨[z],false⟩⟩:=⟨newS_one wq z (by omega),by show 1≤16384;decide,fun l hl=>by
        obtain rfl:l=z:=by simpa using hl
        exact hzl⟩
       exact ((h1.calm ((Calm.refl _).alloc _)).mono HO.out.calm.size).own (by decide) ho7 hg7
    case measure=>simp[intOf];omega
  ·obtain rfl:k=n:=by omega
   have b2:=HB.out.calm HCw.out
   have x0:=b2.x0
   have x1:=b2.x1
   have y0:=b2.y0
   have y1:=b2.y1
   have hszb:=HB.out.size
   clear b2
   cases re with
   |false=>
    have hbs:bindP p q=(capsTo p q.parts k).map (fun c=>(⟨[c],false⟩:Pat)):=by
     unfold bindP
     rw[HN.out.2.2.1,HN.out.1]
     simp
    obtain⟨A2,c2,rfl,h1,h2,h3⟩:=binds_end HO.out HCa.out (fun y hy=>(HEa.out y hy).a)
    rw[←hbs] at h1 h2 ⊢
    have HR:=Lib.hid (And.intro h1 (And.intro h2 h3))
    clear h1 h2 h3 hbs
    go_wp2_with fail
    go_ret2
    exact⟨⟨A2,c2,rfl,HR.out⟩,HC.out.trans HCw.out⟩
   |true=>
    have hbs:bindP p q=(capsTo p q.parts k).map (fun c=>(⟨[c],false⟩:Pat))++[⟨q.parts.drop k,rf⟩]:=by
     unfold bindP
     rw[HN.out.2.2.1,HN.out.1,if_pos rfl,HN.out.2.2.2]
    have HBs:=Lib.hid hbs
    have hyk:ys.length≤k:=by
     have:=congrArg List.length HCa.out
     rw[List.length_map,List.length_map] at this
     have:=capsTo_length p q.parts k
     omega
    obtain⟨Av,cv,hv⟩:=HO.out.len_shape
    obtain⟨L,hL⟩:∃L,ys.length=L:=⟨_,rfl⟩
    rw[hL] at hv hyk
    subst hv
    have HLn:=Lib.hid hL
    have hqw:=HQ.out.calm HCw.out
    have hroom:=hqw.room
    have hcap:=hqw.cap
    rw[HN.out.2.1] at hroom
    obtain⟨bq,oq,rfl,hbq,hkq⟩:=hqw.r.at_ (by rw[HN.out.2.1];exact hm0)
    have HKq:=Lib.hid (And.intro hbq hkq)
    have HDl:Hid ((q.parts.drop k).length=m - k):=by
     show _=_
     rw[List.length_drop,HN.out.2.1]
    have HRd:Hid (∀W (A5:Option Addr),Calm wq W→(k < m→A5=some ⟨bq,oq+k,none⟩)→ReadX encS 1 W A5 (q.parts.drop k)):=fun W A5 hW hA=>by
     intro hne
     have hkm:k < m:=by
      have:(q.parts.drop k).length≠0:=fun e=>hne (List.length_eq_zero_iff.1 e)
      rw[HDl.out] at this
      omega
     refine⟨bq,oq+k,hA hkm,Nat.lt_of_lt_of_le HKq.out.1 hW.size,fun j x hx i u hu=>?_⟩
     have h0:i=0:=by
      have:=(List.getElem?_eq_some_iff.1 hu).1
      simp[encS] at this
      omega
     subst h0
     obtain rfl:Value.string (bs x)=u:=by simpa[encS] using hu
     rw[List.getElem?_drop] at hx
     have h2:=Calm.at_ hW (HKq.out.2 _ _ hx) HKq.out.1
     have e:oq+k+j * 1+0=oq+(k+j):=by omega
     rw[e]
     exact h2
    have HS:Hid (∀W,Calm wq W→W.cell? ⟨w.heap.size,0,none⟩=some (.slice A k c)∧W.cell? ⟨w.heap.size+1,0,none⟩=some (.slice (some ⟨bq,oq,none⟩) m c')∧W.cell? ⟨w.heap.size+1,1,none⟩=some (.bool rf)):=fun W hW=>by
     have h1:=HCw.out.size
     exact⟨Calm.at_ hW x0 (by show w.heap.size < _;omega),Calm.at_ hW y0 (by show w.heap.size+1 < _;omega),Calm.at_ hW y1 (by show w.heap.size+1 < _;omega)⟩
    have hi1:(k:Int)≤(m:Int):=by omega
    have hi2:(m:Int)≤(c':Int):=by omega
    have hi3:(0:Int)≤(k:Int):=by omega
    clear hbs hL hqw hbq hkq
    have hsp:k=c'∨¬c'=k:=by omega
    have HSG:Hid (∀W W':World,Calm wq W→W.grownBy W' (Value.slice Av L cv).ownBlock→W'.cell? ⟨w.heap.size,0,none⟩=some (.slice A k c)∧W'.cell? ⟨w.heap.size+1,0,none⟩=some (.slice (some ⟨bq,oq,none⟩) m c')∧W'.cell? ⟨w.heap.size+1,1,none⟩=some (.bool rf)):=fun W W' hW hg=>by
     have h1:=HCw.out.size
     have h2:=HC2.out.size
     have hh1:=hg.block w.heap.size (by have:=hW.size;omega) (HO.out.far (by omega))
     have hh2:=hg.block (w.heap.size+1) (by have:=hW.size;omega) (HO.out.far (by omega))
     obtain⟨k0,k1,k2⟩:=HS.out W hW
     exact⟨(World.cell?_of_block (a:=⟨w.heap.size,0,none⟩) hh1).trans k0,(World.cell?_of_block (a:=⟨w.heap.size+1,0,none⟩) hh2).trans k1,(World.cell?_of_block (a:=⟨w.heap.size+1,1,none⟩) hh2).trans k2⟩
    rcases hsp with rfl | hsp
    ·obtain rfl:k=m:=by omega
     have HD0:Hid ((q.parts.drop k).length=0):=by
      show _=_
      rw[HDl.out,Nat.sub_self]
     go_wp2_with fail
     go_region_held3 (fun W=>W.cell? ⟨w.heap.size,0,none⟩=some (.slice A k c)∧W.cell? ⟨w.heap.size+1,0,none⟩=some (.slice (some ⟨bq,oq,none⟩) k k)∧W.cell? ⟨w.heap.size+1,1,none⟩=some (.bool rf))
      (first
       |exact HS.out _ (Calm.refl _)
       |exact HS.out _ (Below.drew (Calm.refl _))
       |exact hHS
       |exact HS.out _ hcx
       |exact HS.out _ (hcx.alloc _)
       |go_keep)
      (first
       |(refine step_append_xs (enc:=encS) (K:=1) (T:=9) Tryz.underlying41 info_strS rfl (by decide) (by decide) encS_len encS_one rfl _ (.tmp 57) rfl _ (.slice none 0 0) [] (q.parts.drop k) (by simp[Act.eval,Act.put]) (OwnX.nil (Calm.refl _)) (some ⟨bq,oq,none⟩) 0 0 (by simp[Act.eval,Act.put]) HD0.out (HRd.out _ _ (by first | exact Below.drew (Calm.refl _) | exact Calm.refl _) (fun h=>by first | rfl | (exfalso;omega))) (by simp) ?_;intro v7 w7 hown70 hgr7;rw[List.nil_append] at hown70;obtain⟨A7,c7,hv7⟩:=hown70.len_shape;rw[HD0.out] at hv7;subst hv7;have hown7:OwnX encS 1 9 wq w7 (.slice A7 0 c7) (q.parts.drop k):=hown70.base (by first | exact Below.drew (Calm.refl _) | exact Calm.refl _);have hcx:Calm wq w7:=hown7.calm)
       |(refine step_append_xs (enc:=encP) (K:=2) (T:=201) Tryz.underlying165 info_bind rfl (by decide) (by decide) encP_len encP_one rfl (.tmp 51) (.tmp 62) rfl w2 (.slice Av L cv) ys [⟨A7,c7,⟨q.parts.drop k,rf⟩⟩] (by simp[Act.eval,Act.put]) (HO.out.to (hcx.alloc _)) _ 1 1 rfl rfl (read_newB ⟨A7,c7,⟨q.parts.drop k,rf⟩⟩ rfl HD0.out rfl) (by rw[HLn.out];omega) ?_;intro v8 w8 hown8 hg8;have hcy2:Calm w2 w8:=hown8.calm;have hHS:=HSG.out _ _ (hcx.alloc _) hg8))
     have hsn:SmallN w7 wq.heap.size ⟨A7,c7,⟨q.parts.drop k,rf⟩⟩:=⟨hown7.strsU (by rw[HD0.out];omega) (fun l hl=>by have:=HQ.out.r.each l (List.mem_of_mem_drop hl);omega),by
      show (q.parts.drop k).length≤16384
      rw[HD0.out]
      omega,fun l hl=>HQ.out.r.each l (List.mem_of_mem_drop hl)⟩
     have hps:∀y∈ys++[(⟨A7,c7,⟨q.parts.drop k,rf⟩⟩:NewP)],PatA w8 y.A y.c y.p:=fun y hy=>by
      have ho7:=(HO.out.to (hcx.alloc (.cells #[.slice A7 (0) c7,.bool rf] 201))).own
      rcases List.mem_append.1 hy with hy | hy
      ·exact (((HEa.out y hy).calm (hcx.alloc _)).own (by decide) ho7 hg8).a
      ·rw[List.mem_singleton] at hy
       subst hy
       exact ((hsn.calm ((Calm.refl _).alloc _)).own (by decide) ho7 hg8).a
     obtain⟨A2,c2,rfl,h1,h2,h3⟩:=binds_end (bs:=bindP p q) hown8 (by rw[HBs.out,List.map_append,HCa.out];rfl) hps
     have HR:=Lib.hid (And.intro h1 (And.intro h2 h3))
     have HC8:Hid (Calm w w8):=HC.out.trans (HC2.out.trans hown8.calm)
     clear h1 h2 h3 hown8 hg8 hown7 hown70 hgr7 hsn hps hcy2 hHS hcx
     go_wp2_with fail
     all_goals
      go_ret2
      exact⟨⟨A2,c2,rfl,HR.out⟩,HC8.out⟩
    ·go_wp2_with fail
     go_region_held3 (fun W=>W.cell? ⟨w.heap.size,0,none⟩=some (.slice A k c)∧W.cell? ⟨w.heap.size+1,0,none⟩=some (.slice (some ⟨bq,oq,none⟩) m c')∧W.cell? ⟨w.heap.size+1,1,none⟩=some (.bool rf))
      (first
       |exact HS.out _ (Calm.refl _)
       |exact HS.out _ (Below.drew (Calm.refl _))
       |exact hHS
       |exact HS.out _ hcx
       |exact HS.out _ (hcx.alloc _)
       |go_keep)
      (first
       |(refine step_append_xs (enc:=encS) (K:=1) (T:=9) Tryz.underlying41 info_strS rfl (by decide) (by decide) encS_len encS_one rfl _ (.tmp 57) rfl _ (.slice none 0 0) [] (q.parts.drop k) (by simp[Act.eval,Act.put]) (OwnX.nil (Calm.refl _)) (some ⟨bq,oq+k,none⟩) (m - k) (c' - k) (by simp[Act.eval,Act.put]) HDl.out (HRd.out _ _ (by first | exact Below.drew (Calm.refl _) | exact Calm.refl _) (fun h=>by first | rfl | (exfalso;omega))) (by simp;omega) ?_;intro v7 w7 hown70 hgr7;rw[List.nil_append] at hown70;obtain⟨A7,c7,hv7⟩:=hown70.len_shape;rw[HDl.out] at hv7;subst hv7;have hown7:OwnX encS 1 9 wq w7 (.slice A7 (m - k) c7) (q.parts.drop k):=hown70.base (by first | exact Below.drew (Calm.refl _) | exact Calm.refl _);have hcx:Calm wq w7:=hown7.calm)
       |(refine step_append_xs (enc:=encP) (K:=2) (T:=201) Tryz.underlying165 info_bind rfl (by decide) (by decide) encP_len encP_one rfl (.tmp 51) (.tmp 62) rfl w2 (.slice Av L cv) ys [⟨A7,c7,⟨q.parts.drop k,rf⟩⟩] (by simp[Act.eval,Act.put]) (HO.out.to (hcx.alloc _)) _ 1 1 rfl rfl (read_newB ⟨A7,c7,⟨q.parts.drop k,rf⟩⟩ rfl HDl.out rfl) (by rw[HLn.out];omega) ?_;intro v8 w8 hown8 hg8;have hcy2:Calm w2 w8:=hown8.calm;have hHS:=HSG.out _ _ (hcx.alloc _) hg8))
     have hsn:SmallN w7 wq.heap.size ⟨A7,c7,⟨q.parts.drop k,rf⟩⟩:=⟨hown7.strsU (by rw[HDl.out];omega) (fun l hl=>by have:=HQ.out.r.each l (List.mem_of_mem_drop hl);omega),by
      show (q.parts.drop k).length≤16384
      rw[HDl.out]
      omega,fun l hl=>HQ.out.r.each l (List.mem_of_mem_drop hl)⟩
     have hps:∀y∈ys++[(⟨A7,c7,⟨q.parts.drop k,rf⟩⟩:NewP)],PatA w8 y.A y.c y.p:=fun y hy=>by
      have ho7:=(HO.out.to (hcx.alloc (.cells #[.slice A7 (m - k) c7,.bool rf] 201))).own
      rcases List.mem_append.1 hy with hy | hy
      ·exact (((HEa.out y hy).calm (hcx.alloc _)).own (by decide) ho7 hg8).a
      ·rw[List.mem_singleton] at hy
       subst hy
       exact ((hsn.calm ((Calm.refl _).alloc _)).own (by decide) ho7 hg8).a
     obtain⟨A2,c2,rfl,h1,h2,h3⟩:=binds_end (bs:=bindP p q) hown8 (by rw[HBs.out,List.map_append,HCa.out];rfl) hps
     have HR:=Lib.hid (And.intro h1 (And.intro h2 h3))
     have HC8:Hid (Calm w w8):=HC.out.trans (HC2.out.trans hown8.calm)
     clear h1 h2 h3 hown8 hg8 hown7 hown70 hgr7 hsn hps hcy2 hHS hcx
     go_wp2_with fail
     all_goals
      go_ret2
      exact⟨⟨A2,c2,rfl,HR.out⟩,HC8.out⟩
set_option maxHeartbeats 16000000 in
theorem rnleft_c (r:Rule) (p:Pat) (a:Pl) (n pc:Nat) (re:Bool) (A:Option Addr) (w:World) (hr:RuleU w a r) (hs:SmallR r) (hp:PatA w A pc p) (hn:p.parts.length=n) (hre:p.rest=re) :
  Calls Tryz.prog 63 #[ruleV a r,.agg #[.slice A n pc,.bool re]] w fun e w'=>NarEnd (narL r p) w.heap.size e w'∧Calm w w':=by
 obtain⟨nl,hnl⟩:∃nl,r.left.parts.length=nl:=⟨_,rfl⟩
 obtain⟨nr,hnr⟩:∃nr,r.right.parts.length=nr:=⟨_,rfl⟩
 obtain⟨lr,hlr⟩:∃lr,r.left.rest=lr:=⟨_,rfl⟩
 obtain⟨rr,hrr⟩:∃rr,r.right.rest=rr:=⟨_,rfl⟩
 obtain⟨ex,hex⟩:∃ex,r.excl=ex:=⟨_,rfl⟩
 obtain⟨w1,hw1⟩:∃w1,w1=((w.alloc (.cells #[.bool ex,.slice a.AL nl a.cl,.bool lr,.slice a.AR nr a.cr,.bool rr] 69)).alloc (.cells #[.slice A n pc,.bool re] 51)).alloc (.cells #[.bool false,.slice none 0 0,.bool false,.slice none 0 0,.bool false] 69):=⟨_,rfl⟩
 have hc1:Calm w w1:=by rw[hw1];exact (((Calm.refl w).alloc _).alloc _).alloc _
 have hbr:FiveB w1 w.heap.size (.bool ex) (.slice a.AL nl a.cl) (.bool lr) (.slice a.AR nr a.cr) (.bool rr):=by
  rw[hw1]
  exact (FiveB.new w _ _ _ _ _ _).calm (((Calm.refl _).alloc _).alloc _)
 have hbp:TwoB w1 (w.heap.size+1) (.slice A n pc) (.bool re):=by
  rw[hw1]
  have:=(TwoB.new (w.alloc (.cells #[.bool ex,.slice a.AL nl a.cl,.bool lr,.slice a.AR nr a.cr,.bool rr] 69)) (.slice A n pc) (.bool re) 51).calm ((Calm.refl _).alloc (.cells #[.bool false,.slice none 0 0,.bool false,.slice none 0 0,.bool false] 69))
  simpa using this
 have hbz:FiveB w1 (w.heap.size+1+1) (.bool false) (.slice none 0 0) (.bool false) (.slice none 0 0) (.bool false):=by
  rw[hw1]
  have:=FiveB.new ((w.alloc (.cells #[.bool ex,.slice a.AL nl a.cl,.bool lr,.slice a.AR nr a.cr,.bool rr] 69)).alloc (.cells #[.slice A n pc,.bool re] 51)) (.bool false) (.slice none 0 0) (.bool false) (.slice none 0 0) (.bool false) 69
  simpa using this
 obtain⟨v,hv⟩:∃v,ruleErr r=v:=⟨_,rfl⟩
 obtain⟨u,hu⟩:∃u,patErr p=u:=⟨_,rfl⟩
 have KR:Hid (∀W,Calm w1 W→Calls Tryz.prog 95 #[.agg #[.bool ex,.slice a.AL nl a.cl,.bool lr,.slice a.AR nr a.cr,.bool rr]] W fun e w'=>e=.returned (.int .i64 v)∧Calm W w'):=fun W hW=>by
  have:=rrule_c r a W ((hr.calm hc1).calm hW) hs
  unfold ruleV at this
  rw[hnl,hnr,hlr,hrr,hex,hv] at this
  exact this
 have KP:Hid (∀W,Calm w1 W→Calls Tryz.prog 94 #[.agg #[.slice A n pc,.bool re]] W fun e w'=>e=.returned (.int .i64 u)∧Calm W w'):=fun W hW=>by
  have:=rcheckG_c p A pc W ((hp.calm hc1).calm hW).r.toG hp.room hp.cap
  rw[hn,hre,hu] at this
  exact this
 have hal:PatA w a.AL a.cl r.left:=⟨hr.left hs,hr.lroom,hr.lcap⟩
 have har:PatA w a.AR a.cr r.right:=⟨hr.right hs,hr.rroom,hr.rcap⟩
 have KM1:Hid (∀m,v=0→u=0→meetP r.left p=some m→∀W,Calm w1 W→Calls Tryz.prog 97 #[.agg #[.slice a.AL nl a.cl,.bool lr],.agg #[.slice A n pc,.bool re]] W fun e w'=>(∃A2 c2,e=.returned (.tuple #[.agg #[.slice A2 m.parts.length c2,.bool m.rest],.bool true])∧SmallN w' W.heap.size ⟨A2,c2,m⟩)∧Calm W w'):=fun m hv0 hu0 hm W hW=>by
  have:=rmeet_yes r.left p m a.AL A a.cl pc W ((hal.calm hc1).calm hW) ((hp.calm hc1).calm hW) (ruleErr_twin.1 (hv.trans hv0)).lp (hu.trans hu0) hm
  rw[hnl,hlr,hn,hre] at this
  exact this
 have KM0:Hid (v=0→u=0→meetP r.left p=none→∀W,Calm w1 W→Calls Tryz.prog 97 #[.agg #[.slice a.AL nl a.cl,.bool lr],.agg #[.slice A n pc,.bool re]] W fun e w'=>e=.returned (.tuple #[.agg #[.slice none 0 0,.bool false],.bool false])∧Calm W w'):=fun hv0 hu0 hm W hW=>by
  have:=rmeet_no r.left p a.AL A a.cl pc W ((hal.calm hc1).calm hW) ((hp.calm hc1).calm hW) (ruleErr_twin.1 (hv.trans hv0)).lp (hu.trans hu0) hm
  rw[hnl,hlr,hn,hre] at this
  exact this
 have KB:Hid (∀m,v=0→meetP r.left p=some m→∀W A2 c2,Calm w1 W→PatA W A2 c2 m→Calls Tryz.prog 102 #[.agg #[.slice a.AL nl a.cl,.bool lr],.agg #[.slice A2 m.parts.length c2,.bool m.rest]] W fun e w'=>(∃A3 c3,e=.returned (.tuple #[.slice A3 (bindP r.left m).length c3,.bool true])∧BindsR w' A3 (bindP r.left m)∧(bindP r.left m).length≤c3∧c3≤9223372036854775807)∧Calm W w'):=fun m hv0 hm W A2 c2 hW hPm=>
  rbind_c r.left m nl m.parts.length a.cl c2 lr m.rest a.AL A2 W ((hal.calm hc1).calm hW) hPm (inner_meet (hv.trans hv0) hm).tw.lp (inner_meet (hv.trans hv0) hm).good hnl rfl hlr rfl (inner_meet (hv.trans hv0) hm).inn
 have KS:Hid (∀m,v=0→meetP r.left p=some m→(∀x∈m.parts,x.length≤16384)→∀W LA lc,Calm w1 W→BindsR W LA (bindP r.left m)→(bindP r.left m).length≤lc→lc≤9223372036854775807→Calls Tryz.prog 103 #[.agg #[.slice a.AR nr a.cr,.bool rr],.slice LA (bindP r.left m).length lc] W fun e w'=>SubEnd (carryP r.left r.right m) W.heap.size e w'∧Calm W w'):=fun m hv0 hm hml W LA lc hW hb h1 h2=>
  rsubst_c r.left r.right m nr _ a.cr lc rr a.AR LA W (inner_meet (hv.trans hv0) hm) ((har.calm hc1).calm hW) hnr hrr hb rfl h1 h2 hml
 have HX1:Hid (v≠0→narL r p=(none,v)):=fun h=>by
  unfold narL
  rw[hv,if_pos h]
 have HX2:Hid (v=0→u≠0→narL r p=(none,u)):=fun h h2=>by
  unfold narL
  rw[hv,if_neg (by simpa using h),hu,if_pos h2]
 have HX3:Hid (v=0→u=0→meetP r.left p=none→narL r p=(none,0)):=fun h h2 hm=>by
  unfold narL
  rw[hv,if_neg (by simpa using h),hu,if_neg (by simpa using h2),hm]
 have HX4:Hid (∀m,v=0→u=0→meetP r.left p=some m→narL r p=if 12 < (carryP r.left r.right m).parts.length then (none,43) else (some ⟨false,m,carryP r.left r.right m⟩,0)):=fun m h h2 hm=>by
  unfold narL
  rw[hv,if_neg (by simpa using h),hu,if_neg (by simpa using h2),hm]
 have HW:=Lib.hid hw1
 have HC:=Lib.hid hc1
 have HBr:=Lib.hid hbr
 have HBp:=Lib.hid hbp
 have HBz:=Lib.hid hbz
 have hsz:w.heap.size+1+1 < w1.heap.size:=hbz.lt
 unfold ruleV
 rw[hnl,hnr,hlr,hrr,hex]
 clear hw1 hc1 hbr hbp hbz hr hs hp hn hre hnl hnr hlr hrr hex hv hu hal har
 have HC8:Hid (∀W,Calm w1 W→∀u0 u1 u2 u3 u4,Calm w (set5 W (w.heap.size+1+1) u0 u1 u2 u3 u4)):=fun W hW u0 u1 u2 u3 u4=>calm5 (HC.out.trans hW) (by omega) _ _ _ _ _
 go_enter Tryz.func63,Tryz.ntmps63
 have b:=HBr.out
 have b0:=b.c0
 have b1:=b.c1
 have b2:=b.c2
 have b3:=b.c3
 have b4:=b.c4
 clear b
 go_wp2_with fail
 rw[←HW.out]
 refine (KR.out w1 (Calm.refl _)).mono ?_
 rintro e w2 ⟨rfl,hc2⟩
 clear b0 b1 b2 b3 b4
 have HC2:=Lib.hid hc2
 by_cases hv0:v=0
 ·subst hv0
  have p0:=(HBp.out.calm hc2).c0
  have p1:=(HBp.out.calm hc2).c1
  clear hc2
  go_wp2_with fail
  refine (KP.out w2 HC2.out).mono ?_
  rintro e w3 ⟨rfl,hc3⟩
  have HC3:Hid (Calm w1 w3):=HC2.out.trans hc3
  clear p0 p1 hc3
  by_cases hu0:u=0
  ·subst hu0
   have b:=HBr.out.calm HC3.out
   have b1:=b.c1
   have b2:=b.c2
   have p0:=(HBp.out.calm HC3.out).c0
   have p1:=(HBp.out.calm HC3.out).c1
   clear b
   rcases hmm:meetP r.left p with _ | m
   ·have HX:=Lib.hid (HX3.out (by trivial) (by trivial) hmm)
    have KM:=Lib.hid (KM0.out (by trivial) (by trivial) hmm w3 HC3.out)
    clear hmm
    go_wp2_with fail
    refine KM.out.mono ?_
    rintro e w4 ⟨rfl,hc4⟩
    have hz:=HBz.out.calm ((HC3.out.trans hc4).alloc (.cells #[.slice none 0 0,.bool false] 51))
    have z0:=hz.c0
    have z1:=hz.c1
    have z2:=hz.c2
    have z3:=hz.c3
    have z4:=hz.c4
    have f0:=hz.fz 0
    have f1:=hz.fz 1
    have f2:=hz.fz 2
    have f3:=hz.fz 3
    have f4:=hz.fz 4
    have HC4:Hid (Calm w1 w4):=HC3.out.trans hc4
    clear hz hc4 b1 b2 p0 p1
    go_wp2_with fail
    refine bodyPost_ret (v:=.tuple #[.agg #[.bool false,.slice none 0 0,.bool false,.slice none 0 0,.bool false],.bool false,.int .i64 0]) ?_ rfl ⟨.inl (by rw[HX.out];exact⟨rfl,rfl⟩),HC8.out _ (HC4.out.alloc _) _ _ _ _ _⟩
    rw[results_cell_tt rfl]
    go_simp
   ·have hx:=HX4.out m (by trivial) (by trivial) hmm
    have KM:=Lib.hid (KM1.out m (by trivial) (by trivial) hmm w3 HC3.out)
    have KBm:=Lib.hid (KB.out m (by trivial) hmm)
    have KSm:=Lib.hid (KS.out m (by trivial) hmm)
    clear hmm
    obtain⟨cr,hcr⟩:∃cr,carryP r.left r.right m=cr:=⟨_,rfl⟩
    rw[hcr] at hx KSm
    obtain⟨nb,hnb⟩:∃nb,(bindP r.left m).length=nb:=⟨_,rfl⟩
    rw[hnb] at KBm KSm
    obtain⟨mn,hmn⟩:∃mn,m.parts.length=mn:=⟨_,rfl⟩
    obtain⟨mr,hmr⟩:∃mr,m.rest=mr:=⟨_,rfl⟩
    obtain⟨cn,hcn⟩:∃cn,cr.parts.length=cn:=⟨_,rfl⟩
    obtain⟨ct,hct⟩:∃ct,cr.rest=ct:=⟨_,rfl⟩
    rw[hmn,hmr] at KM KBm
    have HN:=Lib.hid (And.intro hmn (And.intro hmr (And.intro hcn hct)))
    rw[hcn] at hx
    have HX:=Lib.hid hx
    clear hx hcr hmn hmr hcn hct hnb
    go_wp2_with fail
    refine KM.out.mono ?_
    rintro e w4 ⟨⟨A2,c2,rfl,hSm⟩,hc4⟩
    clear b1 b2 p0 p1
    have HC5:Hid (Calm w1 (w4.alloc (.cells #[.slice A2 mn c2,.bool mr] 51))):=(HC3.out.trans hc4).alloc _
    have hm:=TwoB.new w4 (.slice A2 mn c2) (.bool mr) 51
    have HSm:Hid (SmallN (w4.alloc (.cells #[.slice A2 mn c2,.bool mr] 51)) w3.heap.size ⟨A2,c2,m⟩):=hSm.calm ((Calm.refl _).alloc _)
    have hsz3:w1.heap.size≤w3.heap.size:=HC3.out.size
    have b:=HBr.out.calm HC5.out
    have b1:=b.c1
    have b2:=b.c2
    have b3:=b.c3
    have b4:=b.c4
    have m0:=hm.c0
    have m1:=hm.c1
    have HMb:=Lib.hid hm
    clear b hm hSm hc4
    go_wp2_with fail
    obtain⟨w5,hw5⟩:∃w5,w5=w4.alloc (.cells #[.slice A2 mn c2,.bool mr] 51):=⟨_,rfl⟩
    rw[←hw5] at HC5 HMb HSm ⊢
    obtain⟨M,hM⟩:∃M,w4.heap.size=M:=⟨_,rfl⟩
    rw[hM] at HMb
    simp only[hM]
    clear hw5 hM b1 b2 b3 b4 m0 m1
    refine (KBm.out w5 A2 c2 HC5.out HSm.out.a).mono ?_
    rintro e w5b ⟨⟨LA,lc,rfl,hbi,hlc1,hlc2⟩,hc5b⟩
    have HBi:=Lib.hid hbi
    have HC5b:=Lib.hid hc5b
    have b:=HBr.out.calm (HC5.out.trans HC5b.out)
    have b3:=b.c3
    have b4:=b.c4
    clear b hbi hc5b
    go_wp2_with fail
    refine (KSm.out HSm.out.each w5b LA lc (HC5.out.trans HC5b.out) HBi.out hlc1 hlc2).mono ?_
    rintro e w6 ⟨hE,hc6'⟩
    have hc6:Calm w5 w6:=HC5b.out.trans hc6'
    clear b3 b4 hc6'
    have HC6:Hid (Calm w5 w6):=hc6
    clear hc6
    rcases hE with⟨h12,rfl⟩ | ⟨h12,A3,c3,rfl,hN3⟩
    ·rw[HN.out.2.2.1] at h12
     have HX2':Hid (narL r p=(none,43)):=by
      show _=_
      rw[HX.out,if_pos h12]
     have hz:=HBz.out.calm ((HC5.out.trans HC6.out).alloc (.cells #[.slice none 0 0,.bool false] 51))
     have z0:=hz.c0
     have z1:=hz.c1
     have z2:=hz.c2
     have z3:=hz.c3
     have z4:=hz.c4
     have f0:=hz.fz 0
     have f1:=hz.fz 1
     have f2:=hz.fz 2
     have f3:=hz.fz 3
     have f4:=hz.fz 4
     clear hz h12
     go_wp2_with fail
     refine bodyPost_ret (v:=.tuple #[.agg #[.bool false,.slice none 0 0,.bool false,.slice none 0 0,.bool false],.bool false,.int .i64 43]) ?_ rfl ⟨.inl (by rw[HX2'.out];exact⟨rfl,rfl⟩),HC8.out _ ((HC5.out.trans HC6.out).alloc _) _ _ _ _ _⟩
     rw[results_cell_tt rfl]
     go_simp
    ·rw[HN.out.2.2.1] at h12
     have HX2':Hid (narL r p=(some ⟨false,m,cr⟩,0)):=by
      show _=_
      rw[HX.out,if_neg (by omega)]
     rw[HN.out.2.2.1,HN.out.2.2.2]
     have hsz5:w1.heap.size≤w5b.heap.size:=(HC5.out.trans HC5b.out).size
     have HRu:Hid (∀u0 u1 u2 u3 u4,RuleN (set5 (w6.alloc (.cells #[.slice A3 cn c3,.bool ct] 51)) (w.heap.size+1+1) u0 u1 u2 u3 u4) w.heap.size ⟨A2,c2,A3,c3⟩ ⟨false,m,cr⟩):=fun u0 u1 u2 u3 u4=>
      ⟨(((HSm.out.calm (HC6.out.alloc _)).new.mono (show w1.heap.size≤_ from hsz3)).set5 hsz _ _ _ _ _).mono (by omega),(((hN3.calm ((Calm.refl _).alloc _)).mono (show w1.heap.size≤_ from hsz5)).set5 hsz _ _ _ _ _).mono (by omega)⟩
     have hm:=HMb.out.calm (HC6.out.alloc (.cells #[.slice A3 cn c3,.bool ct] 51))
     have m0:=hm.c0
     have m1:=hm.c1
     have hn:=TwoB.new w6 (.slice A3 cn c3) (.bool ct) 51
     have n0:=hn.c0
     have n1:=hn.c1
     have hz:=HBz.out.calm ((HC5.out.trans HC6.out).alloc (.cells #[.slice A3 cn c3,.bool ct] 51))
     have z0:=hz.c0
     have z1:=hz.c1
     have z2:=hz.c2
     have z3:=hz.c3
     have z4:=hz.c4
     have f0:=hz.fz 0
     have f1:=hz.fz 1
     have f2:=hz.fz 2
     have f3:=hz.fz 3
     have f4:=hz.fz 4
     clear hz h12 hm hn hN3
     go_wp2_with fail
     refine bodyPost_ret (v:=.tuple #[.agg #[.bool false,.slice A2 mn c2,.bool mr,.slice A3 cn c3,.bool ct],.bool true,.int .i64 0]) ?_ rfl ⟨.inr ⟨⟨false,m,cr⟩,⟨A2,c2,A3,c3⟩,HX2'.out,by unfold ruleV;rw[HN.out.1,HN.out.2.1,HN.out.2.2.1,HN.out.2.2.2],HRu.out _ _ _ _ _⟩,HC8.out _ ((HC5.out.trans HC6.out).alloc _) _ _ _ _ _⟩
     rw[results_cell_tt rfl]
     go_simp
  ·have HX:=Lib.hid (HX2.out (by trivial) hu0)
   have hu1:(u == 0)=false:=by rw[beq_eq_false_iff_ne];exact hu0
   have hz:=HBz.out.calm HC3.out
   have z0:=hz.c0
   have z1:=hz.c1
   have z2:=hz.c2
   have z3:=hz.c3
   have z4:=hz.c4
   have f0:=hz.fz 0
   have f1:=hz.fz 1
   have f2:=hz.fz 2
   have f3:=hz.fz 3
   have f4:=hz.fz 4
   clear hz
   go_wp2_with fail
   refine bodyPost_ret (v:=.tuple #[.agg #[.bool false,.slice none 0 0,.bool false,.slice none 0 0,.bool false],.bool false,.int .i64 u]) ?_ rfl ⟨.inl (by rw[HX.out];exact⟨rfl,rfl⟩),HC8.out _ HC3.out _ _ _ _ _⟩
   rw[results_cell_tt rfl]
   go_simp
 ·have HX:=Lib.hid (HX1.out hv0)
  have hv1:(v == 0)=false:=by rw[beq_eq_false_iff_ne];exact hv0
  have hz:=HBz.out.calm hc2
  have z0:=hz.c0
  have z1:=hz.c1
  have z2:=hz.c2
  have z3:=hz.c3
  have z4:=hz.c4
  have f0:=hz.fz 0
  have f1:=hz.fz 1
  have f2:=hz.fz 2
  have f3:=hz.fz 3
  have f4:=hz.fz 4
  clear hz hc2
  go_wp2_with fail
  refine bodyPost_ret (v:=.tuple #[.agg #[.bool false,.slice none 0 0,.bool false,.slice none 0 0,.bool false],.bool false,.int .i64 v]) ?_ rfl ⟨.inl (by rw[HX.out];exact⟨rfl,rfl⟩),HC8.out _ HC2.out _ _ _ _ _⟩
  rw[results_cell_tt rfl]
  go_simp
end Go.Proofs.YtdcdabbepnahnaaGreatDoor
