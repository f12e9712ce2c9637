/- Walk: (*stream.forest).pieces, one stream. -/
import Derived.Deep.DeepCutAuto
import Derived.Test.YtcofdlipapnohaaGreatDoorZPcsI
set_option linter.unusedVariables false
set_option linter.unusedSimpArgs false
namespace Go.Proofs.YtcofdlipapnohaaGreatDoor
open Go Go.RowKit Sy
set_option maxRecDepth 100000 in
set_option maxHeartbeats 16000000 in
theorem pieces_step (ss:List Strm) (F:Nat) (A:Option Addr) (n c i:Nat) (po:Option Nat) (up:Option (List Pc)) (w:World) (hf:ForestAt w F A n c ss) (hi:i < n) (hpo:parentI ss i=po) (hsm:∀x∈(strm ss i).paths,SmallV x.rule) (hlz:∀x∈(strm ss i).paths,LineZ x) (hok:∀x∈(strm ss i).paths,lineOk x=true) (hcn:comp (strm ss i).name=true) (hnl:(strm ss i).name.length≤24) (hpl:(strm ss i).paths.length≤64)
  (hu0:po=none→up=some rootPs) (hup:∀ups,up=some ups→(∀p∈ups,PcUp p∧PcZU p)∧ups.length≤32)
  (KU:Hid (∀W p,Calm w W→po=some p→Calls Tryz.prog 130 #[.pointer (some ⟨F,0,none⟩),.int .i64 p] W fun e w'=>PcsEnd up e w'∧Calm W w')) :
  Calls Tryz.prog 130 #[.pointer (some ⟨F,0,none⟩),.int .i64 i] w fun e w'=>PcsEnd (wholeP (strm ss i).name up (strm ss i).paths) e w'∧Calm w w':=by
 have hn:=hf.hn
 have hlen:=hf.strms.len
 rw[hn] at hlen
 have HF:=Lib.hid hf
 obtain⟨b,o,t,PA,pc,rfl,hb,hr,hat,hsu⟩:=hf.strms.get (k:=i) (by rw[hn];exact hi)
 have hlt:=hf.lt
 have f0:=hf.c0
 have ht:=strm_at hr
 rw[ht] at hsm hlz hok hcn hnl hpl ⊢
 have HAt:=Lib.hid hat
 have HSu:=Lib.hid hsu
 obtain⟨nm,hnm⟩:∃nm,t.name=nm:=⟨_,rfl⟩
 obtain⟨pa,hpa⟩:∃pa,t.parent=pa:=⟨_,rfl⟩
 obtain⟨np,hnp⟩:∃np,t.paths.length=np:=⟨_,rfl⟩
 obtain⟨ls,hls⟩:∃ls,t.paths=ls:=⟨_,rfl⟩
 rw[hnm] at hcn hnl ⊢
 rw[hls] at hnp hsm hlz hok hpl ⊢
 rw[hnp] at hpl
 obtain⟨pn,hpn⟩:∃pn,po.getD 0=pn:=⟨_,rfl⟩
 obtain⟨pb,hpb⟩:∃pb,po.isSome=pb:=⟨_,rfl⟩
 obtain⟨w1,hw1⟩:∃w1,w1=((w.alloc (.cells #[.string ⟨#[118,105,101,119]⟩] 9)).alloc (.cells #[.slice (some ⟨w.heap.size,0,none⟩) 1 1,.bool true] 65)).alloc (.cells #[.slice (some ⟨w.heap.size,0,none⟩) 1 1,.bool true,.slice none 0 0,.int .i64 1,.bool false,.slice none 0 0,.bool false,.slice none 0 0,.bool false] 216):=⟨_,rfl⟩
 have hc1:Calm w w1:=by rw[hw1];exact (((Calm.refl w).alloc _).alloc _).alloc _
 have hroot:PcsR w1 (some ⟨w.heap.size+1+1,0,none⟩) rootPs:=by
  rw[hw1]
  exact root_reads w
 have KP:Hid (∀W,Calm w W→Calls Tryz.prog 165 #[.pointer (some ⟨F,0,none⟩),.int .i64 i] W fun e w'=>e=.returned (.tuple #[.int .i64 (pn:Nat),.bool pb])∧Calm W w'):=fun W hW=>by
  have:=parent_c ss F _ n c i W (HF.out.calm hW) hi
  rw[hpo] at this
  unfold parV at this
  rw[hpn,hpb] at this
  exact this
 have HW:=Lib.hid hw1
 have HC1:=Lib.hid hc1
 have HRoot:=Lib.hid hroot
 have HNm:=Lib.hid (And.intro hnm (And.intro hpa (And.intro hls hnp)))
 have HPo:=Lib.hid (And.intro hpn hpb)
 have HU0:=Lib.hid hu0
 have HUp:=Lib.hid hup
 have HSm:=Lib.hid hsm
 have HLz:=Lib.hid hlz
 have HOk:=Lib.hid hok
 have HCn:=Lib.hid hcn
 have HNl:=Lib.hid hnl
 obtain⟨whole,hwh⟩:∃whole,wholeP nm up ls=whole:=⟨_,rfl⟩
 rw[hwh]
 have HWh:=Lib.hid hwh
 clear ht hnm hpa hnp hls hpn hpb hat hsu hr hf hn hw1 hc1 hroot hsm hlz hok hcn hnl hu0 hup hpo hwh
 go_enter Tryz.func130,Tryz.ntmps130
 go_upto_if 37 with (first | (go_at_call 165;rw[←HW.out];refine (KP.out _ HC1.out).mono ?_;rintro e w2 ⟨rfl,hc2⟩;have HC2:=Lib.hid hc2;clear hc2))
 go_cut [7] (fun s wx=>∃UA un uc ups,s=.slice UA un uc∧Hid (up=some ups∧ups.length=un∧un≤uc∧uc≤9223372036854775807∧PcsR wx UA ups∧Calm w wx))
 case first=>
  cases po with
  |none=>
   obtain rfl:false=pb:=HPo.out.2
   go_wp2_with fail
   go_meet
   case rel=>exact⟨_,1,1,rootPs,rfl,HU0.out (by trivial),rfl,Nat.le_refl _,by decide,HRoot.out.calm HC2.out,HC1.out.trans HC2.out⟩
  |some p=>
   obtain rfl:true=pb:=HPo.out.2
   obtain rfl:p=pn:=HPo.out.1
   go_wp2_with fail
   refine (KU.out w2 p (HC1.out.trans HC2.out) rfl).mono ?_
   rintro e w3 ⟨hE,hc3⟩
   have HC3:Hid (Calm w w3):=(HC1.out.trans HC2.out).trans hc3
   clear hc3
   rcases hE with⟨hx,rfl⟩ | ⟨ups,UA,uc,hx,rfl,hR,h1,h2⟩
   ·have HE:Hid (whole=none):=by
     show _=_
     rw[←HWh.out,hx]
     rfl
    clear hx
    go_wp2_with fail
    go_ret2
    exact⟨.inl ⟨HE.out,rfl⟩,HC3.out⟩
   ·have HX:=Lib.hid (And.intro hx (And.intro hR (And.intro h1 h2)))
    obtain⟨un,hun⟩:∃un,ups.length=un:=⟨_,rfl⟩
    rw[hun]
    have HUn:=Lib.hid hun
    clear hx hR h1 h2 hun
    go_wp2_with fail
    go_meet
    case rel=>exact⟨UA,un,uc,ups,rfl,HX.out.1,HUn.out,by rw[←HUn.out];exact HX.out.2.2.1,HX.out.2.2.2,HX.out.2.1,HC3.out⟩
 case rest=>
  obtain⟨UA,un,uc,ups,rfl,HU⟩:=hcut
  have f0:=Calm.at_ HU.out.2.2.2.2.2 f0 hlt
  have hlt:=Nat.lt_of_lt_of_le hlt HU.out.2.2.2.2.2.size
  have hat:=HAt.out.calm HU.out.2.2.2.2.2 hb
  have hb:=Nat.lt_of_lt_of_le hb HU.out.2.2.2.2.2.size
  have c0:=hat.c0
  have c1:=hat.c1
  have c2:=hat.c2
  rw[HNm.out.1] at c0
  rw[HNm.out.2.1] at c1
  rw[HNm.out.2.2.1,HNm.out.2.2.2] at c2
  have hun:un≤32:=by
   have:=(HUp.out ups HU.out.1).2
   rw[HU.out.2.1] at this
   exact this
  clear hat
  go_wp2_with fail
  obtain⟨w9,hw9⟩:∃w9,w9=wc.alloc (.cells #[.string (bs nm),.string (bs pa),.slice PA np pc] 41):=⟨_,rfl⟩
  obtain⟨B11,hB11⟩:∃B11,wc.heap.size=B11:=⟨_,rfl⟩
  have hc9:Calm w w9:=by rw[hw9];exact HU.out.2.2.2.2.2.alloc _
  have hb11:CellsB w9 B11 [.string (bs nm),.string (bs pa),.slice PA np pc]:=by
   rw[hw9,←hB11]
   exact CellsB.new wc _ _
  have HUR:Hid (PcsR w9 UA ups):=by
   show PcsR _ _ _
   rw[hw9]
   exact HU.out.2.2.2.2.1.calm ((Calm.refl _).alloc _)
  rw[←hw9]
  simp only[hB11]
  have HC9:=Lib.hid hc9
  have HB11:=Lib.hid hb11
  have HLs:Hid (LinesU w9 PA ls):=by
   have:=(HSu.out.lines.calm hc9)
   rw[HNm.out.2.2.1] at this
   exact this
  have HRoom:Hid (np≤pc∧pc≤9223372036854775807):=⟨by have:=HSu.out.room;rw[HNm.out.2.2.1,HNm.out.2.2.2] at this;exact this,HSu.out.cap⟩
  have hr1:=HRoom.out.1
  have hr2:=HRoom.out.2
  have HWl:Hid (linesPs nm ups ls []=whole):=by
   show _=_
   rw[←HWh.out,HU.out.1]
   rfl
  have HUps:=Lib.hid (HUp.out ups HU.out.1)
  have HLen:Hid (ups.length=un∧ls.length=np):=⟨HU.out.2.1,HNm.out.2.2.2⟩
  clear hw9 hB11 hc9 hb11 c0 c1 c2 f0 hlt hb HU HW HC1 HRoot HPo HU0 HUp KP KU HAt HF
  go_loopw [12,57] (fun v u wr=>∃(k:Nat) (zs:List NewC),k≤np∧u=.int .i64 k∧Hid (PcI 216 32 w9 wr v zs∧linesPs nm ups (ls.drop k) (zs.map (·.p))=whole)) (fun _ u _=>np - (intOf u).toNat)
  case atStart=>exact⟨0,[],Nat.zero_le _,rfl,PcI.nil,HWl.out⟩
  case round=>
   obtain⟨k,zs,hk,rfl,HI⟩:=hrel
   obtain⟨wo,rfl⟩:∃wo,wo=wr:=⟨_,rfl⟩
   by_cases hlt:k < np
   ·obtain⟨bl,ol,x,a,rfl,hbl,hxk,hat,hru⟩:=HLs.out.get (k:=k) (by rw[HLen.out.2];exact hlt)
    obtain⟨κ,hκ⟩:∃κ,x.kind=κ:=⟨_,rfl⟩
    obtain⟨lp,hlp⟩:∃lp,x.path.parts.length=lp:=⟨_,rfl⟩
    obtain⟨lf,hlf⟩:∃lf,x.frm.parts.length=lf:=⟨_,rfl⟩
    obtain⟨rp,hrp⟩:∃rp,x.path.rest=rp:=⟨_,rfl⟩
    obtain⟨rf,hrf⟩:∃rf,x.frm.rest=rf:=⟨_,rfl⟩
    have hcw:=HI.out.1.own.calm
    have hat:=hat.calm hcw hbl
    have hbl:=Nat.lt_of_lt_of_le hbl hcw.size
    have c0:=hat.c0
    have c1:=hat.c1
    have c2:=hat.c2
    have c3:=hat.c3
    have c4:=hat.c4
    rw[hκ] at c0
    rw[hlp] at c1
    rw[hrp] at c2
    rw[hlf] at c3
    rw[hrf] at c4
    have hxm:=List.mem_of_getElem? hxk
    have HXN:Hid (x.kind=κ∧x.path.parts.length=lp∧x.frm.parts.length=lf∧x.path.rest=rp∧x.frm.rest=rf):=⟨hκ,hlp,hlf,hrp,hrf⟩
    have HXk:=Lib.hid hxk
    have HXm:=Lib.hid hxm
    have HRu:=Lib.hid hru
    have HDr:Hid (ls.drop k=x :: ls.drop (k+1)):=by
     show _=_
     obtain⟨h1,h2⟩:=List.getElem?_eq_some_iff.1 hxk
     rw[List.drop_eq_getElem_cons h1,h2]
    clear hat hκ hlp hlf hrp hrf hxk hxm hru hcw
    by_cases hk4:κ=4
    ·subst hk4
     have HS:Hid (linesPs nm ups (ls.drop (k+1)) (zs.map (·.p))=whole):=by
      show _=_
      have:=HI.out.2
      rw[HDr.out,linesPs_excl HXN.out.1] at this
      exact this
     go_wp2_with fail
     go_roundw
     case rel=>exact⟨k+1,zs,by omega,by go_num,HI.out.1.calm ((Calm.refl _).alloc _),HS.out⟩
     case measure=>simp[intOf];omega
    ·have hkb4:(κ == 4)=false:=by simpa using hk4
     have HGo:Hid (contP nm ups (ownG x (ls.drop (k+1))) x (ls.drop (k+1)) ups (zs.map (·.p))=whole):=by
      show _=_
      have:=HI.out.2
      rw[HDr.out,linesPs_go (by rw[HXN.out.1];exact hk4)] at this
      exact this
     have hi1:(0:Int)≤(k:Int)+1:=by omega
     have hi2:(k:Int)+1≤(np:Int):=by omega
     have hi3:(np:Int)≤(pc:Int):=by omega
     have hi4:k+1≤np:=by omega
     have hiw:IntKind.i64.wrap ((k:Int)+1)=(k:Int)+1:=by rw[IntKind.wrap_i64];omega
     have hb11:=HB11.out.calm HI.out.1.own.calm
     have s0:=hb11.at_ 0 _ rfl
     have s2:=hb11.at_ 2 _ rfl
     have hlt11:=hb11.lt
     obtain⟨L,hL⟩:∃L,np - (k+1)=L:=⟨_,rfl⟩
     have HL:=Lib.hid hL
     clear hL hb11
     go_upto_region 16 with (fail)
     obtain⟨w3,hw3⟩:∃w3,w3=wo.alloc (.cells #[.int .i64 κ,.slice a.AL lp a.cl,.bool rp,.slice a.AR lf a.cr,.bool rf] 68):=⟨_,rfl⟩
     obtain⟨B14,hB14⟩:∃B14,wo.heap.size=B14:=⟨_,rfl⟩
     have HB14:Hid (BoxK 68 w3 B14 [.int .i64 κ,.slice a.AL lp a.cl,.bool rp,.slice a.AR lf a.cr,.bool rf]):=by
      show BoxK _ _ _ _
      rw[hw3,←hB14]
      exact BoxK.new wo _ _
     have HC3:Hid (Calm wo w3):=by
      show Below _ _ _
      rw[hw3]
      exact (Calm.refl _).alloc _
     have s0:=Calm.at_ HC3.out s0 hlt11
     have s2:=Calm.at_ HC3.out s2 hlt11
     have hlt11:=Nat.lt_of_lt_of_le hlt11 HC3.out.size
     rw[←hw3]
     simp only[hB14]
     clear hw3 hB14 c0 c1 c2 c3 c4
     go_cut [69,70,71] (fun s u v wx=>∃LA lc,s=.slice LA L lc∧u=.int .i64 L∧v=.int .i64 0∧wx=w3∧Hid (k+1 < np→LA=some ⟨bl,ol+(k+1) * 5,none⟩))
     case first=>
      have hsp:pc=k+1∨¬pc=k+1:=Decidable.em _
      have hL:=HL.out
      rcases hsp with rfl | hsp
      ·go_wp2_with fail
       try simp only[hL]
       go_meet
       case rel=>exact⟨_,_,rfl,rfl,rfl,rfl,Lib.hid (fun h=>by omega)⟩
      ·go_wp2_with fail
       try simp only[hL]
       go_meet
       case rel=>exact⟨_,_,rfl,rfl,rfl,rfl,Lib.hid (fun h=>rfl)⟩
     case rest=>
      obtain⟨LA,lc,rfl,rfl,rfl,hwc,HLA⟩:=hcut
      subst hwc
      obtain⟨w3,rfl⟩:∃w3,w3=wc:=⟨_,rfl⟩
      have HDl:Hid (LinesU w3 LA (ls.drop (k+1))):=(HLs.out.calm (HI.out.1.own.calm.trans HC3.out)).drop (fun h=>HLA.out (by have:=HLen.out.2;omega))
      have HLl:Hid ((ls.drop (k+1)).length=L):=by
       show _=_
       rw[List.length_drop,HLen.out.2]
       exact HL.out
      have hL64:L≤64:=by have:=HL.out;omega
      clear HLA
      go_wp2_with fail
      go_loopw [15,71] (fun v u wr=>∃(j:Nat) (ys:List NewP),j≤L∧u=.int .i64 j∧Hid (LatI w3 wr v (ls.drop (k+1)) j ys)) (fun _ u _=>L - (intOf u).toNat)
      case atStart=>exact⟨0,[],Nat.zero_le _,rfl,LatI.nil _ _⟩
      case round=>
       obtain⟨j,ys,hj,rfl,HH⟩:=hrel
       obtain⟨wq,rfl⟩:∃wq,wq=wr:=⟨_,rfl⟩
       by_cases hlt2:j < L
       ·obtain⟨bq,oq,q,aq,rfl,hbq,hqj,hqat,hqu⟩:=HDl.out.get (k:=j) (by rw[HLl.out];exact hlt2)
        obtain⟨qk,hqk⟩:∃qk,q.kind=qk:=⟨_,rfl⟩
        obtain⟨ql,hql⟩:∃ql,q.path.parts.length=ql:=⟨_,rfl⟩
        obtain⟨qf,hqf⟩:∃qf,q.frm.parts.length=qf:=⟨_,rfl⟩
        obtain⟨qr,hqr⟩:∃qr,q.path.rest=qr:=⟨_,rfl⟩
        obtain⟨qs,hqs⟩:∃qs,q.frm.rest=qs:=⟨_,rfl⟩
        have hqat:=hqat.calm HH.out.own.calm hbq
        have hbq:=Nat.lt_of_lt_of_le hbq HH.out.own.calm.size
        have c0:=hqat.c0
        have c1:=hqat.c1
        have c2:=hqat.c2
        have c3:=hqat.c3
        have c4:=hqat.c4
        rw[hqk] at c0
        rw[hql] at c1
        rw[hqr] at c2
        rw[hqf] at c3
        rw[hqs] at c4
        have hqm:q∈ls:=List.mem_of_mem_drop (List.mem_of_getElem? hqj)
        have hsq:=(HSm.out q hqm).small
        have HQa:Hid (PatA w3 aq.AL aq.cl q.path):=⟨hqu.left hsq,hqu.lroom,hqu.lcap⟩
        have HQn:=Lib.hid (And.intro hql hqr)
        have HQj:=Lib.hid hqj
        have hyl:=HH.out.len
        rw[HLl.out] at hyl
        clear hqat hqk hql hqf hqr hqs hqj hqu hqm hsq
        go_wp2_with (at_builtin;refine wpList_append_ps rfl (.tmp 75) (.tmp 78) rfl w3 _ ys [⟨aq.AL,aq.cl,q.path⟩] rfl (HH.out.own.to (((Calm.refl _).alloc _).alloc _)) _ 1 1 rfl rfl (read_newH ⟨aq.AL,aq.cl,q.path⟩ (by simp) HQn.out.1 HQn.out.2) (by omega) ?_;intro v5 w5 hown5 hg5)
        go_roundw
        case rel=>exact⟨j+1,ys++[⟨aq.AL,aq.cl,q.path⟩],by omega,by go_num,HH.out.add HQj.out rfl HQa.out hown5⟩
        case measure=>simp[intOf];omega
       ·obtain rfl:j=L:=by omega
        obtain⟨HA,hac,rfl,hps⟩:=HH.out.reads HLl.out (by omega)
        have HCq:Hid (Calm w3 wq):=HH.out.own.calm
        obtain⟨gh,hgh⟩:∃gh,(ownG x (ls.drop (k+1))).hs.length=gh:=⟨_,rfl⟩
        have HGh:=Lib.hid hgh
        have hgh64:gh≤64:=by
         have h1:=redL_len x.path ((ls.drop (k+1)).map (·.path))
         rw[List.length_map,HLl.out] at h1
         rw[←hgh]
         show (redL x.path ((ls.drop (k+1)).map (·.path))).length≤64
         omega
        have hsx:=HSm.out x HXm.out
        have KRd:Hid (Calls Tryz.prog 169 #[.agg #[.slice a.AL lp a.cl,.bool rp],.slice HA j hac] wq fun e w'=>(∃A3 c3 HA3 hc3,e=.returned (.agg #[.slice A3 lp c3,.bool rp,.slice HA3 gh hc3])∧RegN w' wq.heap.size A3 c3 HA3 hc3 (ownG x (ls.drop (k+1))))∧Calm wq w'):=by
         have hu2:=HRu.out.calm (((HI.out.1.own.calm).trans HC3.out).trans HCq.out)
         have:=reduce_c x.path ((ls.drop (k+1)).map (·.path)) a.AL a.cl HA j hac wq ⟨hu2.left hsx.small,hu2.lroom,hu2.lcap⟩ hps (by rw[List.length_map];exact HLl.out) (lineOk_path (HOk.out x HXm.out)).1 (fun p hp=>by
          obtain⟨y,hy,rfl⟩:=List.mem_map.1 hp
          exact (lineOk_path (HOk.out y (List.mem_of_mem_drop hy))).1)
         rw[HXN.out.2.1,HXN.out.2.2.2.1] at this
         refine this.mono ?_
         rintro e w' ⟨⟨A3,c3,HA3,hc3,he,h1,h2⟩,hc⟩
         refine⟨⟨A3,c3,HA3,hc3,?_,regN_of h1 h2 hsx.small.lp hsx.small.ls⟩,hc⟩
         rw[he,HXN.out.2.1,HXN.out.2.2.2.1]
         have hgh':(redL x.path ((ls.drop (k+1)).map (·.path))).length=gh:=hgh
         rw[hgh']
        have h14:=HB14.out.calm HCq.out
        have d0:=h14.c.at_ 0 _ rfl
        have d1:=h14.c.at_ 1 _ rfl
        have d2:=h14.c.at_ 2 _ rfl
        clear h14 hps hgh hsx HH
        go_wp2_with fail
        refine KRd.out.mono ?_
        rintro e w5 ⟨⟨A3,c3,HA3,hc3,rfl,hN5⟩,hc5⟩
        clear d0 d1 d2 KRd
        obtain⟨w6,hw6⟩:∃w6,w6=w5.alloc (.cells #[.slice A3 lp c3,.bool rp,.slice HA3 gh hc3] 214):=⟨_,rfl⟩
        obtain⟨B18,hB18⟩:∃B18,w5.heap.size=B18:=⟨_,rfl⟩
        have hc56:Calm w5 w6:=by
         show Below _ _ _
         rw[hw6]
         exact (Calm.refl _).alloc _
        have h18:BoxK 214 w6 B18 [.slice A3 lp c3,.bool rp,.slice HA3 gh hc3]:=by
         rw[hw6,←hB18]
         exact BoxK.new w5 _ _
        have HC6:Hid (Calm wo w6):=HC3.out.trans (HCq.out.trans (hc5.trans hc56))
        have HJ0:Hid (PcJ w9 w6 (Value.slice none 0 0) zs B14 B18 [.int .i64 κ,.slice a.AL lp a.cl,.bool rp,.slice a.AR lf a.cr,.bool rf] [.slice A3 lp c3,.bool rp,.slice HA3 gh hc3] A3 c3 HA3 hc3 (ownG x (ls.drop (k+1)))∨True):=.inr trivial
        have HLine:Hid (BoxK 68 w6 B14 [.int .i64 κ,.slice a.AL lp a.cl,.bool rp,.slice a.AR lf a.cr,.bool rf]):=HB14.out.calm (HCq.out.trans (hc5.trans hc56))
        have HOwn:=Lib.hid h18
        have HReg:Hid (RegN w6 w9.heap.size A3 c3 HA3 hc3 (ownG x (ls.drop (k+1)))):=(hN5.calm hc56).mono (by
         have h1:=HI.out.1.own.calm.size
         have h2:=HC3.out.size
         have h3:=HCq.out.size
         omega)
        have HLu:Hid (∀z:Pc,z∈ups→PcUp z∧PcZU z):=HUps.out.1
        have HNm40:nm.length≤40:=by have:=HNl.out;omega
        go_wp2_with fail
        rw[←hw6]
        try simp only[hB18]
        clear hw6 hB18 hc56 h18 HJ0 hc5 hN5
        obtain⟨og,hog⟩:∃og,ownG x (ls.drop (k+1))=og:=⟨_,rfl⟩
        rw[hog] at HGo HReg HGh
        have HOg:Hid (og.b.parts.length=lp∧og.b.rest=rp∧og.hs.length=gh∧LetP 40 og.b):=by
         rw[←hog]
         exact⟨HXN.out.2.1,HXN.out.2.2.2.1,by rw[hog];exact HGh.out,(HLz.out x HXm.out).1⟩
        clear hog
        obtain⟨rest,hrest⟩:∃rest,ls.drop (k+1)=rest:=⟨_,rfl⟩
        rw[hrest] at HGo
        have HRest:=Lib.hid hrest
        clear hrest
        go_loopw [12,87] (fun v u wr=>∃(m:Nat) (zs:List NewC),m≤un∧u=.int .i64 m∧Hid (PcJ w9 wr v zs B14 B18 [.int .i64 κ,.slice a.AL lp a.cl,.bool rp,.slice a.AR lf a.cr,.bool rf] [.slice A3 lp c3,.bool rp,.slice HA3 gh hc3] A3 c3 HA3 hc3 og)∧Hid (contP nm ups og x rest (ups.drop m) (zs.map (·.p))=whole)) (fun _ u _=>un - (intOf u).toNat)
        case atStart=>exact⟨0,zs,Nat.zero_le _,rfl,⟨HI.out.1.calm HC6.out,HLine.out,HOwn.out,HReg.out⟩,by rw[List.drop_zero];exact HGo.out⟩
        case round=>
         obtain⟨m,zs2,hm,rfl,HJ,HCt⟩:=hrel
         obtain⟨wz,rfl⟩:∃wz,wz=wr:=⟨_,rfl⟩
         obtain⟨VA,vc,hv⟩:=HJ.out.pc.own.len_shape
         obtain⟨Z,hZ⟩:∃Z,zs2.length=Z:=⟨_,rfl⟩
         rw[hZ] at hv
         subst hv
         have HZ:=Lib.hid hZ
         clear hZ
         by_cases hlt3:m < un
         ·obtain⟨bu,ou,z,rfl,hbu,hzm,hz9,hza⟩:=HUR.out.get (k:=m) (by rw[HLen.out.1];exact hlt3)
          obtain⟨gb,hgb⟩:∃gb,z.p.region.b.parts.length=gb:=⟨_,rfl⟩
          obtain⟨gr,hgr⟩:∃gr,z.p.region.b.rest=gr:=⟨_,rfl⟩
          obtain⟨gk,hgk⟩:∃gk,z.p.region.hs.length=gk:=⟨_,rfl⟩
          obtain⟨pk,hpk⟩:∃pk,z.p.kind=pk:=⟨_,rfl⟩
          obtain⟨ex,hex⟩:∃ex,z.p.line.excl=ex:=⟨_,rfl⟩
          obtain⟨il,hil⟩:∃il,z.p.line.left.parts.length=il:=⟨_,rfl⟩
          obtain⟨lr,hlr⟩:∃lr,z.p.line.left.rest=lr:=⟨_,rfl⟩
          obtain⟨ir,hir⟩:∃ir,z.p.line.right.parts.length=ir:=⟨_,rfl⟩
          obtain⟨rr,hrr⟩:∃rr,z.p.line.right.rest=rr:=⟨_,rfl⟩
          have cw:=HJ.out.pc.own.calm
          have x0:=Calm.at_ cw hz9.c0 hbu
          have x1:=Calm.at_ cw hz9.c1 hbu
          have x2:=Calm.at_ cw hz9.c2 hbu
          have x3:=Calm.at_ cw hz9.c3 hbu
          have x4:=Calm.at_ cw hz9.c4 hbu
          have x5:=Calm.at_ cw hz9.c5 hbu
          have x6:=Calm.at_ cw hz9.c6 hbu
          have x7:=Calm.at_ cw hz9.c7 hbu
          have x8:=Calm.at_ cw hz9.c8 hbu
          rw[hgb] at x0
          rw[hgr] at x1
          rw[hgk] at x2
          rw[hpk] at x3
          rw[hex] at x4
          rw[hil] at x5
          rw[hlr] at x6
          rw[hir] at x7
          rw[hrr] at x8
          have hbu:=Nat.lt_of_lt_of_le hbu cw.size
          have y0:=HJ.out.own.c.at_ 0 _ rfl
          have y1:=HJ.out.own.c.at_ 1 _ rfl
          have y2:=HJ.out.own.c.at_ 2 _ rfl
          have hy18:=HJ.out.own.c.lt
          have hup:=HLu.out z.p (List.mem_of_getElem? hzm)
          have hgk64:gk≤64:=by
           rw[←hgk]
           exact (gErr_zero hup.1.g).2.2
          have HUpz:=Lib.hid hup
          have HZN:Hid (z.p.region.b.parts.length=gb∧z.p.region.b.rest=gr∧z.p.region.hs.length=gk∧z.p.kind=pk):=⟨hgb,hgr,hgk,hpk⟩
          have HZL:Hid (z.p.line.left.parts.length=il∧z.p.line.right.parts.length=ir∧z.p.line.left.rest=lr∧z.p.line.right.rest=rr∧z.p.line.excl=ex):=⟨hil,hir,hlr,hrr,hex⟩
          have HZa:Hid (PcA wz z):=hza.calm cw
          have HDu:Hid (ups.drop m=z.p :: ups.drop (m+1)):=by
           show _=_
           obtain⟨h1,h2⟩:=List.getElem?_eq_some_iff.1 hzm
           rw[List.drop_eq_getElem_cons h1,h2]
          clear cw hz9 hza hzm hup hgb hgr hgk hpk hex hil hlr hir hrr
          go_wp2_with fail
          obtain⟨w7,hw7⟩:∃w7,w7=wz.alloc (.cells #[.slice z.A gb z.c,.bool gr,.slice z.HA gk z.hc,.int .i64 pk,.bool ex,.slice z.a.AL il z.a.cl,.bool lr,.slice z.a.AR ir z.a.cr,.bool rr] 216):=⟨_,rfl⟩
          obtain⟨B20,hB20⟩:∃B20,wz.heap.size=B20:=⟨_,rfl⟩
          have hc7:Calm wz w7:=by
           show Below _ _ _
           rw[hw7]
           exact (Calm.refl _).alloc _
          have H20:Hid (CellsB w7 B20 [.slice z.A gb z.c,.bool gr,.slice z.HA gk z.hc,.int .i64 pk,.bool ex,.slice z.a.AL il z.a.cl,.bool lr,.slice z.a.AR ir z.a.cr,.bool rr]):=by
           show CellsB _ _ _
           rw[hw7,←hB20]
           exact CellsB.new wz _ _
          rw[←hw7]
          try simp only[hB20]
          have HC7:=Lib.hid hc7
          have HRg7:Hid (RegA w7 A3 c3 HA3 og.b og.hs):=(HJ.out.reg.calm hc7).a (by rw[HOg.out.2.2.1];omega)
          clear hw7 hB20 hc7 x0 x1 x2 x3 x4 x5 x6 x7 x8 y0 y1 y2
          refine (gmeet_c og z.p.region lp gh gb gk rp gr A3 c3 HA3 hc3 z.A z.c z.HA z.hc w7 HRg7.out (HZa.out.g.calm HC7.out) HOg.out.1 HOg.out.2.2.1 HOg.out.2.1 HZN.out.1 HZN.out.2.2.1 HZN.out.2.1 (by omega)).mono ?_
          rintro e w8 ⟨hE,hc8⟩
          have HC8:Hid (Calm wz w8):=HC7.out.trans hc8
          have HC78:Hid (Calm w7 w8):=hc8
          have HCw9:Hid (Calm w wz):=HC9.out.trans HJ.out.pc.own.calm
          clear hc8
          rcases hE with⟨g,A4,c4,HA4,hc4,h1,h2,rfl,hR⟩ | ⟨h1,rfl⟩
          ·obtain⟨n4,hn4⟩:∃n4,g.b.parts.length=n4:=⟨_,rfl⟩
           obtain⟨m4,hm4⟩:∃m4,g.hs.length=m4:=⟨_,rfl⟩
           obtain⟨re4,hre4⟩:∃re4,g.b.rest=re4:=⟨_,rfl⟩
           rw[hn4,hm4,hre4]
           have hgz:gErr g=0:=(meetR_some h1).2.2.2.1
           have hn40:0 < n4:=by rw[←hn4];exact pat_pos (gErr_zero hgz).1
           have HG4:=Lib.hid (And.intro hn4 (And.intro hm4 hre4))
           have HM12:=Lib.hid (And.intro h2 (And.intro h1 hgz))
           have HR:=Lib.hid hR
           have hlg:LetP 40 g.b:=meetR_let h1 HOg.out.2.2.2 HUpz.out.2.b
           have HSw:Hid (SmallR (wideP nm x z.p g)):=wide_small HNm40 (HSm.out x HXm.out).small HUpz.out.1 HUpz.out.2 hgz hlg
           have b20:=H20.out.calm HC78.out
           have b14:=(HJ.out.line.calm HC8.out).c
           have b11:=HB11.out.calm (HJ.out.pc.own.calm.trans HC8.out)
           have s0:=b11.at_ 0 _ rfl
           have l11:=b11.lt
           have d0:=b14.at_ 0 _ rfl
           have d1:=b14.at_ 1 _ rfl
           have d2:=b14.at_ 2 _ rfl
           have d3:=b14.at_ 3 _ rfl
           have d4:=b14.at_ 4 _ rfl
           have l14:=b14.lt
           have x0:=b20.at_ 0 _ rfl
           have x1:=b20.at_ 1 _ rfl
           have x2:=b20.at_ 2 _ rfl
           have x3:=b20.at_ 3 _ rfl
           have x4:=b20.at_ 4 _ rfl
           have x5:=b20.at_ 5 _ rfl
           have x6:=b20.at_ 6 _ rfl
           have x7:=b20.at_ 7 _ rfl
           have x8:=b20.at_ 8 _ rfl
           have l20:=b20.lt
           clear b20 b14 b11 h1 h2 hR hn4 hm4 hre4 hgz hlg
           go_wp2_with fail
           have HC9a:Hid (Calm w8 (w8.alloc (.cells #[.slice A4 n4 c4,.bool re4,.slice HA4 m4 hc4] 214))):=(Calm.refl _).alloc _
           have cA:=HC8.out.trans HC9a.out
           refine (narrowed_c nm x a z ⟨A4,c4,HA4,hc4,g⟩ κ pk lp lf gb gk il ir n4 m4 rp rf gr ex lr rr re4 _ (HRu.out.calm ((HJ.out.pc.own.calm).trans cA)) (HZa.out.r.calm cA) ((HR.out.base.calm HC9a.out).a) hn40 (by omega) HSw.out HXN.out HZN.out.2.2.2 HZL.out HG4.out.1 HG4.out.2.1 HG4.out.2.2).mono ?_
           rintro e w10 ⟨hE,hc10⟩
           have HC10:Hid (Calm wz w10):=cA.trans hc10
           have HR10:Hid (RegN w10 w7.heap.size A4 c4 HA4 hc4 g):=(HR.out.calm HC9a.out).calm hc10
           have HS8:Hid (w9.heap.size≤w7.heap.size∧w9.heap.size≤(w8.alloc (.cells #[.slice A4 n4 c4,.bool re4,.slice HA4 m4 hc4] 214)).heap.size):=⟨(HJ.out.pc.own.calm.trans HC7.out).size,(HJ.out.pc.own.calm.trans cA).size⟩
           clear hc10 cA s0 d0 d1 d2 d3 d4 x0 x1 x2 x3 x4 x5 x6 x7 x8 l11 l14 l20
           rcases hE with⟨hx0,rfl⟩ | ⟨q,a4,hq,rfl,hRN⟩
           ·have HE:Hid (whole=none):=by
             show _=_
             rw[←HCt.out,HDu.out,contP_stop HM12.out.1 HM12.out.2.1 (.inl hx0)]
            clear hx0
            go_wp2_with fail
            go_ret2
            exact⟨.inl ⟨HE.out,rfl⟩,(HCw9.out.trans HC10.out).alloc _⟩
           ·have hqg:q.region=g:=by
             rcases narP_cases (nm:=nm) (x:=x) (p:=z.p) (g:=g) with⟨_,h⟩ | ⟨_,h⟩
             ·rw[h] at hq
              cases hq
             ·rw[h] at hq
              obtain rfl:=Option.some.inj hq
              rfl
            obtain⟨qk,hqk⟩:∃qk,q.kind=qk:=⟨_,rfl⟩
            obtain⟨qx,hqx⟩:∃qx,q.line.excl=qx:=⟨_,rfl⟩
            obtain⟨ql,hql⟩:∃ql,q.line.left.parts.length=ql:=⟨_,rfl⟩
            obtain⟨qlr,hqlr⟩:∃qlr,q.line.left.rest=qlr:=⟨_,rfl⟩
            obtain⟨qr,hqr⟩:∃qr,q.line.right.parts.length=qr:=⟨_,rfl⟩
            obtain⟨qrr,hqrr⟩:∃qrr,q.line.right.rest=qrr:=⟨_,rfl⟩
            have hen:(encC ⟨A4,c4,HA4,hc4,a4,q⟩).toArray=#[.slice A4 n4 c4,.bool re4,.slice HA4 m4 hc4,.int .i64 qk,.bool qx,.slice a4.AL ql a4.cl,.bool qlr,.slice a4.AR qr a4.cr,.bool qrr]:=by
             unfold encC
             simp only[hqg,HG4.out.1,HG4.out.2.1,HG4.out.2.2,hqk,hqx,hql,hqlr,hqr,hqrr]
            rw[hen]
            have HQN:Hid (q.region.b.parts.length=n4∧q.region.b.rest=re4∧q.region.hs.length=m4∧q.kind=qk∧q.line.excl=qx∧q.line.left.parts.length=ql∧q.line.left.rest=qlr∧q.line.right.parts.length=qr∧q.line.right.rest=qrr):=by
             rw[hqg]
             exact⟨HG4.out.1,HG4.out.2.2,HG4.out.2.1,hqk,hqx,hql,hqlr,hqr,hqrr⟩
            have HPN:Hid (PcN w10 w9.heap.size ⟨A4,c4,HA4,hc4,a4,q⟩):=⟨by
             show RegN _ _ _ _ _ _ q.region
             rw[hqg]
             exact HR10.out.mono HS8.out.1,hRN.mono HS8.out.2⟩
            have HQ64:Hid (q.region.hs.length≤64):=by
             rw[hqg]
             exact (gErr_zero HM12.out.2.2).2.2
            have HQ:=Lib.hid hq
            clear hqg hqk hqx hql hqlr hqr hqrr hen hq hRN
            by_cases h32:Z=32
            ·subst h32
             have HE:Hid (whole=none):=by
              show _=_
              rw[←HCt.out,HDu.out,contP_stop HM12.out.1 HM12.out.2.1 (.inr (by rw[List.length_map];exact HZ.out))]
             go_wp2_with fail
             go_ret2
             exact⟨.inl ⟨HE.out,rfl⟩,(HCw9.out.trans HC10.out).alloc _⟩
            ·have hb32:((Z:Int) == 32)=false:=by
              rw[beq_eq_false_iff_ne]
              omega
             have HA:Hid (contP nm ups og x rest (ups.drop (m+1)) ((zs2++[(⟨A4,c4,HA4,hc4,a4,q⟩:NewC)]).map (·.p))=whole):=by
              show _=_
              have:=HCt.out
              rw[HDu.out,contP_add HM12.out.1 HM12.out.2.1 HQ.out (by rw[List.length_map,HZ.out];exact h32)] at this
              rw[List.map_append]
              exact this
             have hZ31:Z+1≤32:=by
              have:=HJ.out.pc.few
              rw[HZ.out] at this
              omega
             go_upto_region 32 with (fail)
             go_wp2_with (at_builtin;refine wpList_append_xs (enc:=encC) (K:=9) (T:=216) Tryz.underlying174 info_pc rfl (by decide) (by decide) encC_len encC_one rfl (.tmp 119) (.tmp 121) rfl w9 _ zs2 [⟨A4,c4,HA4,hc4,a4,q⟩] rfl (HJ.out.pc.own.to (HC10.out.trans (((Calm.refl _).alloc _).alloc _))) _ 1 1 rfl rfl (read_newC ⟨A4,c4,HA4,hc4,a4,q⟩ (by simp) HQN.out.1 HQN.out.2.1 HQN.out.2.2.1 HQN.out.2.2.2.1 HQN.out.2.2.2.2.1 HQN.out.2.2.2.2.2.1 HQN.out.2.2.2.2.2.2.1 HQN.out.2.2.2.2.2.2.2.1 HQN.out.2.2.2.2.2.2.2.2) (by rw[HZ.out];omega) ?_;intro v11 w11 hown11 hg11)
             have HRel:=Lib.hid (HJ.out.add (z:=⟨A4,c4,HA4,hc4,a4,q⟩) (HC10.out.trans (((Calm.refl _).alloc _).alloc _)) (HPN.out.calm (((Calm.refl _).alloc _).alloc _)) HQ64.out (by rw[HZ.out];exact hZ31) hg11 hown11)
             go_roundw
             case rel=>exact⟨m+1,zs2++[(⟨A4,c4,HA4,hc4,a4,q⟩:NewC)],by omega,by go_num,HRel,HA⟩
             case measure=>simp[intOf];omega
          ·obtain⟨er,her⟩:∃er,(meetR og z.p.region).2=er:=⟨_,rfl⟩
           rw[her]
           by_cases her0:er=0
           ·subst her0
            have HA:Hid (contP nm ups og x rest (ups.drop (m+1)) (zs2.map (·.p))=whole):=by
             show _=_
             have:=HCt.out
             rw[HDu.out,contP_skip her h1] at this
             exact this
            clear her h1
            go_wp2_with fail
            go_roundw
            case rel=>exact⟨m+1,zs2,by omega,by go_num,HJ.out.calm (HC8.out.alloc _),HA.out⟩
            case measure=>simp[intOf];omega
           ·have her1:(er != 0)=true:=by simpa using her0
            have HE:Hid (whole=none):=by
             show _=_
             rw[←HCt.out,HDu.out,contP_fail (by rw[her];exact her0)]
            clear her h1
            go_wp2_with fail
            go_ret2
            exact⟨.inl ⟨HE.out,rfl⟩,(HCw9.out.trans HC8.out).alloc _⟩
         ·obtain rfl:m=un:=by omega
          have HA:Hid (linesPs nm ups (ls.drop (k+1)) (zs2.map (·.p))=whole):=by
           show _=_
           have:=HCt.out
           rw[←HLen.out.1,List.drop_length] at this
           rw[HRest.out]
           exact this
          go_wp2_with fail
          go_roundw
          case rel=>exact⟨k+1,zs2,by omega,by go_num,HJ.out.pc,HA.out⟩
          case measure=>simp[intOf];omega
   ·obtain rfl:k=np:=by omega
    obtain⟨A',c',rfl,h1,h2,h3⟩:=HI.out.1.reads
    have HE:Hid (whole=some (zs.map (·.p))):=by
     show _=_
     have:=HI.out.2
     rw[←HLen.out.2,List.drop_length] at this
     rw[←this]
     rfl
    obtain⟨Z,hZ⟩:∃Z,zs.length=Z:=⟨_,rfl⟩
    have HZ:=Lib.hid hZ
    have HR9:=Lib.hid (And.intro h3 (And.intro h1 h2))
    have HC9':Hid (Calm w wo):=HC9.out.trans HI.out.1.own.calm
    rw[hZ]
    clear h1 h2 h3 hZ HI
    go_wp2_with fail
    go_ret2
    exact⟨.inr ⟨zs.map (·.p),A',c',HE.out,by rw[List.length_map,HZ.out];rfl,HR9.out.1,by rw[List.length_map];exact HR9.out.2.1,HR9.out.2.2⟩,HC9'.out⟩
end Go.Proofs.YtcofdlipapnohaaGreatDoor
