/- Walk: the reference's Pieces, one stream. -/
import Derived.Deep.DeepCutAuto
import Derived.Deep.CutBlock
import Derived.Deep.RegionHeld3
import Derived.Test.YtdcdabbepnahnaaGreatDoorZRPcF
import Derived.Test.YtdcdabbepnahnaaGreatDoorZRGMeet
import Derived.Test.YtdcdabbepnahnaaGreatDoorZRNarW
import Derived.Test.YtdcdabbepnahnaaGreatDoorZRefS
import Derived.Test.YtdcdabbepnahnaaGreatDoorZStrLaw
set_option linter.unusedVariables false
set_option linter.unusedSimpArgs false
namespace Go.Proofs.YtdcdabbepnahnaaGreatDoor
open Go Go.RowKit Sy
set_option maxRecDepth 100000 in
set_option maxHeartbeats 32000000 in
theorem rpieces_step (ss:List Strm) (A:Option Addr) (n c i:Nat) (nm pa:Str) (mn:Bool) (up:Option (List Pc)) (w:World) (hs:StrmsU w A ss) (hn:ss.length=n) (hi:i < n) (hg:Sy.Good ss) (hnm:(strm ss i).name=nm) (hpa:(strm ss i).parent=pa) (hmn:pa.isEmpty=mn) (hsm:∀x∈(strm ss i).paths,SmallV x.rule) (hlz:∀x∈(strm ss i).paths,LineZ x)
  (hu0:mn=true→up=some []) (hup:∀ups,up=some ups→(∀p∈ups,PcUp p∧PcZU p)∧ups.length≤32)
  (KU:Hid (mn=false→∀W,Calm w W→Calls Tryz.prog 26 #[.slice A n c,.string (bs pa)] W fun e w'=>RpEnd up e w'∧Calm W w')) :
  Calls Tryz.prog 26 #[.slice A n c,.string (bs nm)] w fun e w'=>RpEnd (rwhole mn nm up (strm ss i).paths) e w'∧Calm w w':=by
 have hlen:=hs.len
 rw[hn] at hlen
 have hil:i < ss.length:=by omega
 obtain⟨b,o,t,PA,pc,rfl,hb,hr,hat,hsu⟩:=hs.get (k:=i) hil
 have ht:=strm_at hr
 have hok:=hg.lines hil
 obtain⟨o1,o2,o3,o4,o5,o6⟩:=ownErr_zero (hg.own i hil)
 rw[hnm] at o1 o2
 rw[ht] at hnm hpa hsm hlz hok o6 ⊢
 have K1:Hid (∀W,Calm w W→Calls Tryz.prog 25 #[.slice (some ⟨b,o,none⟩) n c,.string (bs nm)] W fun e w'=>e=.returned (.int .i64 (i:Nat))∧Calm W w'):=fun W hW=>by
  have:=rfind_c ss nm (some ⟨b,o,none⟩) n c W (hs.calm hW) hn
  rw[←hnm,←ht,hg.find hil,ht,hnm] at this
  exact this
 obtain⟨np,hnp⟩:∃np,t.paths.length=np:=⟨_,rfl⟩
 obtain⟨ls,hls⟩:∃ls,t.paths=ls:=⟨_,rfl⟩
 rw[hls] at hnp hsm hlz hok o6 ⊢
 rw[hnp] at o6
 have HAt:=Lib.hid hat
 have HSu:=Lib.hid hsu
 have HNm:=Lib.hid (And.intro hnm (And.intro hpa (And.intro hls hnp)))
 have HU0:=Lib.hid hu0
 have HUp:=Lib.hid hup
 have HSm:=Lib.hid hsm
 have HLz:=Lib.hid hlz
 have HOk:=Lib.hid hok
 obtain⟨whole,hwh⟩:∃whole,rwhole mn nm up ls=whole:=⟨_,rfl⟩
 rw[hwh]
 have HWh:=Lib.hid hwh
 clear hs hn hg hil ht hnm hpa hsm hlz hok hat hsu hr hls hnp hu0 hup hwh o1 o3 o4 o5
 go_enter Tryz.func26,Tryz.ntmps26
 go_wp2_with fail
 refine (K1.out w (Calm.refl _)).mono ?_
 rintro e w2 ⟨rfl,hc2⟩
 have hat:=HAt.out.calm hc2 hb
 have hb:=Nat.lt_of_lt_of_le hb hc2.size
 have c0:=hat.c0
 have c1:=hat.c1
 have c2:=hat.c2
 rw[HNm.out.1] at c0
 rw[HNm.out.2.1] at c1
 rw[HNm.out.2.2.1,HNm.out.2.2.2] at c2
 have HC2:=Lib.hid hc2
 clear hat hc2 K1
 go_upto_if 33 with (fail)
 obtain⟨w6,hw6⟩:∃w6,w6=w2.alloc (.cells #[.string (bs nm),.string (bs pa),.slice PA np pc] 49):=⟨_,rfl⟩
 obtain⟨B6,hB6⟩:∃B6,w2.heap.size=B6:=⟨_,rfl⟩
 have hc6:Calm w2 w6:=by
  show Below _ _ _
  rw[hw6]
  exact (Calm.refl _).alloc _
 have hb6:CellsB w6 B6 [.string (bs nm),.string (bs pa),.slice PA np pc]:=by
  rw[hw6,←hB6]
  exact CellsB.new w2 _ _
 rw[←hw6]
 simp only[hB6]
 have HC6:Hid (Calm w w6):=HC2.out.trans hc6
 have HB6:=Lib.hid hb6
 have s1:=hb6.at_ 1 _ rfl
 have lt6:=hb6.lt
 clear hw6 hB6 hc6 hb6 c0 c1 c2 hb
 go_cut [7] (fun s wx=>∃UA un uc ups,s=.slice UA un uc∧Hid (up=some ups∧ups.length=un∧un≤uc∧uc≤9223372036854775807∧PcsR wx UA ups∧Calm w6 wx))
 case first=>
  cases mn with
  |true=>
   go_wp2_with fail
   go_meet
   case rel=>exact⟨none,0,0,[],rfl,HU0.out (by trivial),rfl,Nat.le_refl _,by decide,⟨[],rfl,fun h=>absurd rfl h,fun z hz=>by cases hz⟩,Calm.refl _⟩
  |false=>
   have KU1:=Lib.hid (KU.out (by trivial))
   go_wp2_with fail
   refine (KU1.out w6 HC6.out).mono ?_
   rintro e w7 ⟨hE,hc7⟩
   have HC7:Hid (Calm w6 w7):=hc7
   clear hc7
   rcases hE with⟨hx,v,rfl⟩ | ⟨ups,UA,uc,hx,rfl,hR,h1,h2⟩
   ·have HE:Hid (whole=none):=by
     show _=_
     rw[←HWh.out,hx]
     rfl
    clear hx
    go_wp2_with fail
    go_ret2
    exact⟨.inl ⟨HE.out,_,rfl⟩,HC6.out.trans HC7.out⟩
   ·have HX:=Lib.hid (And.intro hx (And.intro hR (And.intro h1 h2)))
    obtain⟨un,hun⟩:∃un,ups.length=un:=⟨_,rfl⟩
    rw[hun]
    have HUn:=Lib.hid hun
    clear hx hR h1 h2 hun
    go_wp2_with fail
    go_meet
    case rel=>exact⟨UA,un,uc,ups,rfl,HX.out.1,HUn.out,by rw[←HUn.out];exact HX.out.2.2.1,HX.out.2.2.2,HX.out.2.1,HC7.out⟩
 case rest=>
  obtain⟨UA,un,uc,ups,rfl,HU⟩:=hcut
  have hc6c:=HU.out.2.2.2.2.2
  have s2:=(HB6.out.calm hc6c).at_ 2 _ rfl
  have lt6:=Nat.lt_of_lt_of_le lt6 hc6c.size
  have hun:un≤32:=by
   have:=(HUp.out ups HU.out.1).2
   rw[HU.out.2.1] at this
   exact this
  have HUR:Hid (PcsR wc UA ups):=HU.out.2.2.2.2.1
  have HC9:Hid (Calm w wc):=HC6.out.trans hc6c
  have HB9:Hid (CellsB wc B6 [.string (bs nm),.string (bs pa),.slice PA np pc]):=HB6.out.calm hc6c
  have HLs:Hid (LinesU wc PA ls):=by
   have:=HSu.out.lines.calm HC9.out
   rw[HNm.out.2.2.1] at this
   exact this
  have HRoom:Hid (np≤pc∧pc≤9223372036854775807):=⟨by have:=HSu.out.room;rw[HNm.out.2.2.1,HNm.out.2.2.2] at this;exact this,HSu.out.cap⟩
  have hr1:=HRoom.out.1
  have hr2:=HRoom.out.2
  have HWl:Hid (capN (rrest mn nm ups ls [])=whole):=by
   show _=_
   rw[←HWh.out,HU.out.1]
   rfl
  have HUps:=Lib.hid (HUp.out ups HU.out.1)
  have HLen:Hid (ups.length=un∧ls.length=np):=⟨HU.out.2.1,HNm.out.2.2.2⟩
  obtain⟨w9,rfl⟩:∃w9,w9=wc:=⟨_,rfl⟩
  clear hc6c HU HU0 HUp KU HAt HC6 HB6 HC2 s1 hb
  go_wp2_with fail
  go_loopw [9,46] (fun v u wr=>∃(k:Nat) (zs:List NewC),k≤np∧u=.int .i64 k∧Hid (RpI w9 wr v zs (k * 32)∧capN (rrest mn nm ups (ls.drop k) (zs.map (·.p)))=whole)) (fun _ u _=>np - (intOf u).toNat)
  case atStart=>exact⟨0,[],Nat.zero_le _,rfl,RpI.nil,HWl.out⟩
  case round=>
   obtain⟨k,zs,hk,rfl,HI⟩:=hrel
   obtain⟨wo,rfl⟩:∃wo,wo=wr:=⟨_,rfl⟩
   obtain⟨VA,vc,hv⟩:=HI.out.1.own.len_shape
   obtain⟨Z,hZ⟩:∃Z,zs.length=Z:=⟨_,rfl⟩
   rw[hZ] at hv
   subst hv
   have HZ:=Lib.hid hZ
   clear hZ
   have hzf:=HI.out.1.few
   rw[HZ.out] at hzf
   by_cases hlt:k < np
   ·obtain⟨bl,ol,x,a,rfl,hbl,hxk,hat,hru⟩:=HLs.out.get (k:=k) (by rw[HLen.out.2];exact hlt)
    obtain⟨κ,hκ⟩:∃κ,x.kind=κ:=⟨_,rfl⟩
    obtain⟨lp,hlp⟩:∃lp,x.path.parts.length=lp:=⟨_,rfl⟩
    obtain⟨lf,hlf⟩:∃lf,x.frm.parts.length=lf:=⟨_,rfl⟩
    obtain⟨rp,hrp⟩:∃rp,x.path.rest=rp:=⟨_,rfl⟩
    obtain⟨rf,hrf⟩:∃rf,x.frm.rest=rf:=⟨_,rfl⟩
    have hcw:=HI.out.1.own.calm
    have hat:=hat.calm hcw hbl
    have hbl:=Nat.lt_of_lt_of_le hbl hcw.size
    have c0:=hat.c0
    have c1:=hat.c1
    have c2:=hat.c2
    have c3:=hat.c3
    have c4:=hat.c4
    rw[hκ] at c0
    rw[hlp] at c1
    rw[hrp] at c2
    rw[hlf] at c3
    rw[hrf] at c4
    have hxm:=List.mem_of_getElem? hxk
    have HXN:Hid (x.kind=κ∧x.path.parts.length=lp∧x.frm.parts.length=lf∧x.path.rest=rp∧x.frm.rest=rf):=⟨hκ,hlp,hlf,hrp,hrf⟩
    have HXm:=Lib.hid hxm
    have HRu:=Lib.hid hru
    have HDr:Hid (ls.drop k=x :: ls.drop (k+1)):=by
     show _=_
     obtain⟨h1,h2⟩:=List.getElem?_eq_some_iff.1 hxk
     rw[List.drop_eq_getElem_cons h1,h2]
    clear hat hκ hlp hlf hrp hrf hxk hxm hru hcw s2
    by_cases hk4:κ=4
    ·subst hk4
     have HS:Hid (capN (rrest mn nm ups (ls.drop (k+1)) (zs.map (·.p)))=whole):=by
      show _=_
      have:=HI.out.2
      rw[HDr.out,rrest_excl HXN.out.1] at this
      exact this
     go_wp2_with fail
     go_roundw
     case rel=>exact⟨k+1,zs,by omega,by go_num,(HI.out.1.calm ((Calm.refl _).alloc _)).le (by omega),HS.out⟩
     case measure=>simp[intOf];omega
    ·have hkb4:(κ == 4)=false:=by simpa using hk4
     have HK4:=Lib.hid hk4
     clear hk4
     have hi1:(0:Int)≤(k:Int)+1:=by omega
     have hi2:(k:Int)+1≤(np:Int):=by omega
     have hi3:(np:Int)≤(pc:Int):=by omega
     have hi4:k+1≤np:=by omega
     have hiw:IntKind.i64.wrap ((k:Int)+1)=(k:Int)+1:=by rw[IntKind.wrap_i64];omega
     have hb6:=HB9.out.calm HI.out.1.own.calm
     have s2:=hb6.at_ 2 _ rfl
     have lt6:=hb6.lt
     obtain⟨L,hL⟩:∃L,np - (k+1)=L:=⟨_,rfl⟩
     have HL:=Lib.hid hL
     clear hL hb6
     go_upto_region 14 with (fail)
     obtain⟨w3,hw3⟩:∃w3,w3=wo.alloc (.cells #[.int .i64 κ,.slice a.AL lp a.cl,.bool rp,.slice a.AR lf a.cr,.bool rf] 53):=⟨_,rfl⟩
     obtain⟨B11,hB11⟩:∃B11,wo.heap.size=B11:=⟨_,rfl⟩
     have HB11:Hid (CellsB w3 B11 [.int .i64 κ,.slice a.AL lp a.cl,.bool rp,.slice a.AR lf a.cr,.bool rf]):=by
      show CellsB _ _ _
      rw[hw3,←hB11]
      exact CellsB.new wo _ _
     have HC3:Hid (Calm wo w3):=by
      show Below _ _ _
      rw[hw3]
      exact (Calm.refl _).alloc _
     have s2:=Calm.at_ HC3.out s2 lt6
     have lt6:=Nat.lt_of_lt_of_le lt6 HC3.out.size
     rw[←hw3]
     simp only[hB11]
     clear hw3 hB11 c0 c1 c2 c3 c4
     go_cut [58,59,60] (fun s u v wx=>∃LA lc,s=.slice LA L lc∧u=.int .i64 L∧v=.int .i64 0∧wx=w3∧Hid (k+1 < np→LA=some ⟨bl,ol+(k+1) * 5,none⟩))
     case first=>
      have hsp:pc=k+1∨¬pc=k+1:=Decidable.em _
      have hL:=HL.out
      rcases hsp with rfl | hsp
      ·go_wp2_with fail
       try simp only[hL]
       go_meet
       case rel=>exact⟨_,_,rfl,rfl,rfl,rfl,Lib.hid (fun h=>by omega)⟩
      ·go_wp2_with fail
       try simp only[hL]
       go_meet
       case rel=>exact⟨_,_,rfl,rfl,rfl,rfl,Lib.hid (fun h=>rfl)⟩
     case rest=>
      obtain⟨LA,lc,rfl,rfl,rfl,hwc,HLA⟩:=hcut
      subst hwc
      obtain⟨w3,rfl⟩:∃w3,w3=wc:=⟨_,rfl⟩
      have HDl:Hid (LinesU w3 LA (ls.drop (k+1))):=(HLs.out.calm (HI.out.1.own.calm.trans HC3.out)).drop (fun h=>HLA.out (by have:=HLen.out.2;omega))
      have HLl:Hid ((ls.drop (k+1)).length=L):=by
       show _=_
       rw[List.length_drop,HLen.out.2]
       exact HL.out
      have hL64:L≤64:=by have:=HL.out;omega
      clear HLA s2
      go_wp2_with fail
      go_loopw [12,60] (fun v u wr=>∃(j:Nat) (ys:List NewP),j≤L∧u=.int .i64 j∧Hid (LatI w3 wr v (ls.drop (k+1)) j ys)) (fun _ u _=>L - (intOf u).toNat)
      case atStart=>exact⟨0,[],Nat.zero_le _,rfl,LatI.nil _ _⟩
      case round=>
       obtain⟨j,ys,hj,rfl,HH⟩:=hrel
       obtain⟨wq,rfl⟩:∃wq,wq=wr:=⟨_,rfl⟩
       by_cases hlt2:j < L
       ·obtain⟨bq,oq,q,aq,rfl,hbq,hqj,hqat,hqu⟩:=HDl.out.get (k:=j) (by rw[HLl.out];exact hlt2)
        obtain⟨qk,hqk⟩:∃qk,q.kind=qk:=⟨_,rfl⟩
        obtain⟨ql,hql⟩:∃ql,q.path.parts.length=ql:=⟨_,rfl⟩
        obtain⟨qf,hqf⟩:∃qf,q.frm.parts.length=qf:=⟨_,rfl⟩
        obtain⟨qr,hqr⟩:∃qr,q.path.rest=qr:=⟨_,rfl⟩
        obtain⟨qs,hqs⟩:∃qs,q.frm.rest=qs:=⟨_,rfl⟩
        have hqat:=hqat.calm HH.out.own.calm hbq
        have hbq:=Nat.lt_of_lt_of_le hbq HH.out.own.calm.size
        have c0:=hqat.c0
        have c1:=hqat.c1
        have c2:=hqat.c2
        have c3:=hqat.c3
        have c4:=hqat.c4
        rw[hqk] at c0
        rw[hql] at c1
        rw[hqr] at c2
        rw[hqf] at c3
        rw[hqs] at c4
        have hqm:q∈ls:=List.mem_of_mem_drop (List.mem_of_getElem? hqj)
        have hsq:=(HSm.out q hqm).small
        have HQa:Hid (PatA w3 aq.AL aq.cl q.path):=⟨hqu.left hsq,hqu.lroom,hqu.lcap⟩
        have HQn:=Lib.hid (And.intro hql hqr)
        have HQj:=Lib.hid hqj
        have hyl:=HH.out.len
        rw[HLl.out] at hyl
        clear hqat hqk hql hqf hqr hqs hqj hqu hqm hsq
        go_wp2_with (at_builtin;refine wpList_append_ps rfl (.tmp 64) (.tmp 67) rfl w3 _ ys [⟨aq.AL,aq.cl,q.path⟩] rfl (HH.out.own.to (((Calm.refl _).alloc _).alloc _)) _ 1 1 rfl rfl (read_newH ⟨aq.AL,aq.cl,q.path⟩ (by simp) HQn.out.1 HQn.out.2) (by omega) ?_;intro v5 w5 hown5 hg5)
        go_roundw
        case rel=>exact⟨j+1,ys++[⟨aq.AL,aq.cl,q.path⟩],by omega,by go_num,HH.out.add HQj.out rfl HQa.out hown5⟩
        case measure=>simp[intOf];omega
       ·obtain rfl:j=L:=by omega
        obtain⟨HA,hac,rfl,hps⟩:=HH.out.reads HLl.out (by omega)
        have HCq:Hid (Calm w3 wq):=HH.out.own.calm
        obtain⟨og,hog⟩:∃og,ownG x (ls.drop (k+1))=og:=⟨_,rfl⟩
        have hogh:redL x.path ((ls.drop (k+1)).map (·.path))=og.hs:=by rw[←hog];rfl
        have hogb:og.b=x.path:=by rw[←hog];rfl
        obtain⟨gh,hgh⟩:∃gh,og.hs.length=gh:=⟨_,rfl⟩
        have hgh64:gh≤64:=by
         have h1:=redL_len x.path ((ls.drop (k+1)).map (·.path))
         rw[List.length_map,HLl.out,hogh,hgh] at h1
         omega
        have hgood:∀p∈og.hs,patErr p=0:=by
         rw[←hogh]
         exact fun p hp=>redL_good p hp
        have hsx:=HSm.out x HXm.out
        have KRd:Hid (Calls Tryz.prog 59 #[.agg #[.slice a.AL lp a.cl,.bool rp],.slice HA j hac] wq fun e w'=>(∃HA3 hc3,e=.returned (.agg #[.slice a.AL lp a.cl,.bool rp,.slice HA3 gh hc3])∧PatsN w' wq.heap.size HA3 hc3 og.hs)∧Calm wq w'):=by
         have hu2:=HRu.out.calm (((HI.out.1.own.calm).trans HC3.out).trans HCq.out)
         have:=rsimp_c x.path ((ls.drop (k+1)).map (·.path)) a.AL a.cl HA j hac wq ⟨hu2.left hsx.small,hu2.lroom,hu2.lcap⟩ hps (by rw[List.length_map];exact HLl.out) (lineOk_path (HOk.out x HXm.out)).1 (fun p hp=>by
          obtain⟨y,hy,rfl⟩:=List.mem_map.1 hp
          exact (lineOk_path (HOk.out y (List.mem_of_mem_drop hy))).1)
         unfold RSEnd at this
         rw[HXN.out.2.1,HXN.out.2.2.2.1,hogh,hgh] at this
         exact this
        have HOg:Hid (og.b.parts.length=lp∧og.b.rest=rp∧og.hs.length=gh∧LetP 40 og.b):=by
         rw[hogb]
         exact⟨HXN.out.2.1,HXN.out.2.2.2.1,hgh,(HLz.out x HXm.out).1⟩
        have HOgb:=Lib.hid hogb
        have HGood:=Lib.hid hgood
        have HOw:=Lib.hid hog
        have h11:=HB11.out.calm HCq.out
        have d1:=h11.at_ 1 _ rfl
        have d2:=h11.at_ 2 _ rfl
        have lt11:=h11.lt
        clear h11 hps hgh hsx HH hogh hogb hgood hog
        go_wp2_with fail
        refine KRd.out.mono ?_
        rintro e w5 ⟨⟨HA3,hc3,rfl,hN5⟩,hc5⟩
        clear d1 d2 KRd lt11
        go_upto_region 20 with (fail)
        obtain⟨w4,hw4⟩:∃w4,w4=w5.alloc (.cells #[.slice a.AL lp a.cl,.bool rp,.slice HA3 gh hc3] 67):=⟨_,rfl⟩
        obtain⟨B15,hB15⟩:∃B15,w5.heap.size=B15:=⟨_,rfl⟩
        have hc54:Calm w5 w4:=by
         show Below _ _ _
         rw[hw4]
         exact (Calm.refl _).alloc _
        have h15:BoxK 67 w4 B15 [.slice a.AL lp a.cl,.bool rp,.slice HA3 gh hc3]:=by
         rw[hw4,←hB15]
         exact BoxK.new w5 _ _
        have HC4:Hid (Calm wo w4):=HC3.out.trans (HCq.out.trans (hc5.trans hc54))
        have h11:CellsB w4 B11 [.int .i64 κ,.slice a.AL lp a.cl,.bool rp,.slice a.AR lf a.cr,.bool rf]:=HB11.out.calm (HCq.out.trans (hc5.trans hc54))
        have HHs:Hid (PatsN w4 w9.heap.size HA3 hc3 og.hs):=(hN5.calm hc54).mono (by
         have h1:=HI.out.1.own.calm.size
         have h2:=HC3.out.size
         have h3:=HCq.out.size
         omega)
        rw[←hw4]
        try simp only[hB15]
        have HLine:=Lib.hid h11
        have HReg:=Lib.hid h15
        have HNm40:nm.length≤40:=by omega
        have hlp0:0 < lp:=by
         rw[←HXN.out.2.1]
         exact pat_pos (lineOk_path (HOk.out x HXm.out)).1
        have hru4:=HRu.out.calm (HI.out.1.own.calm.trans HC4.out)
        have hsx:=HSm.out x HXm.out
        have KI:Hid (∀W,Calm w4 W→Calls Tryz.prog 60 #[.agg #[.slice a.AL lp a.cl,.bool rp],.string (bs nm)] W fun e w'=>(∃A2 c2,e=.returned (.agg #[.slice A2 lp c2,.bool rp])∧NewS w' W.heap.size A2 c2 (storedP x.path nm).parts)∧Calm W w'):=fun W hW=>by
         have:=rin_c x.path nm a.AL lp a.cl rp W ((hru4.calm hW).left hsx.small) HXN.out.2.1 HXN.out.2.2.2.1 (by rw[←HXN.out.2.1];exact hru4.lroom) hru4.lcap (by omega) hlp0
         exact this
        have hS0:=h15.c.at_ 0 _ rfl
        have hS1:=h15.c.at_ 1 _ rfl
        have hS2:=h15.c.at_ 2 _ rfl
        have hT0:=h11.at_ 0 _ rfl
        have hT1:=h11.at_ 1 _ rfl
        have hT2:=h11.at_ 2 _ rfl
        have l15:=h15.c.lt
        have l11:=h11.lt
        have HSX:Hid (∀W,Calm w4 W→W.cell? ⟨B15,0,none⟩=some (.slice a.AL lp a.cl)∧W.cell? ⟨B15,1,none⟩=some (.bool rp)∧W.cell? ⟨B15,2,none⟩=some (.slice HA3 gh hc3)∧W.cell? ⟨B11,0,none⟩=some (.int .i64 κ)∧W.cell? ⟨B11,1,none⟩=some (.slice a.AL lp a.cl)∧W.cell? ⟨B11,2,none⟩=some (.bool rp)):=fun W hW=>
         ⟨Calm.at_ hW hS0 l15,Calm.at_ hW hS1 l15,Calm.at_ hW hS2 l15,Calm.at_ hW hT0 l11,Calm.at_ hW hT1 l11,Calm.at_ hW hT2 l11⟩
        clear hw4 hB15 hc54 h15 h11 hc5 hN5 hS0 hS1 hS2 hT0 hT1 hT2 hru4 hsx
        go_cut [16] (fun s wx=>∃B16 A2 c2,s=.pointer (some ⟨B16,0,none⟩)∧Hid (OwnZ w4 wx B16 a lp rp HA3 gh hc3 κ A2 c2 (storedP x.path nm).parts))
        case first=>
         go_region_held3 (fun W=>W.cell? ⟨B15,0,none⟩=some (.slice a.AL lp a.cl)∧W.cell? ⟨B15,1,none⟩=some (.bool rp)∧W.cell? ⟨B15,2,none⟩=some (.slice HA3 gh hc3)∧W.cell? ⟨B11,0,none⟩=some (.int .i64 κ)∧W.cell? ⟨B11,1,none⟩=some (.slice a.AL lp a.cl)∧W.cell? ⟨B11,2,none⟩=some (.bool rp))
          (first
           |with_reducible exact HSX.out _ (calm9 hcx (Nat.le_refl _) _ _ _ _ _ _ _ _ _)
           |with_reducible exact HSX.out _ hcx
           |with_reducible exact HSX.out _ (hcx.alloc _)
           |with_reducible exact HSX.out _ (Calm.refl _)
           |with_reducible exact HSX.out _ (Below.drew (Calm.refl _))
           |with_reducible exact HSX.out _ (Below.drew ((Calm.refl _).alloc _))
           |with_reducible exact HSX.out _ ((Calm.refl _).alloc _)
           |go_keep)
          (first
           |(go_at_call 60;first
             |((with_reducible refine (KI.out _ (Calm.refl _)).mono ?_);rintro e w7 ⟨⟨A2,c2,rfl,hN7⟩,hc7⟩;have hcx:Calm w4 w7:=Calm.trans (Calm.refl _) hc7)
             |((with_reducible refine (KI.out _ (Below.drew (Calm.refl _))).mono ?_);rintro e w7 ⟨⟨A2,c2,rfl,hN7⟩,hc7⟩;have hcx:Calm w4 w7:=Calm.trans (Below.drew (Calm.refl _)) hc7)
             |((with_reducible refine (KI.out _ ((Calm.refl _).alloc _)).mono ?_);rintro e w7 ⟨⟨A2,c2,rfl,hN7⟩,hc7⟩;have hcx:Calm w4 w7:=Calm.trans ((Calm.refl _).alloc _) hc7;have hZ:CellsB w7 w4.heap.size zero9:=CellsB.calm (CellsB.new w4 #[.slice none 0 0,.bool false,.slice none 0 0,.int .i64 0,.bool false,.slice none 0 0,.bool false,.slice none 0 0,.bool false] 71) hc7;have z0:=hZ.at_ 0 _ rfl;have z1:=hZ.at_ 1 _ rfl;have z2:=hZ.at_ 2 _ rfl;have z3:=hZ.at_ 3 _ rfl;have z4:=hZ.at_ 4 _ rfl;have z5:=hZ.at_ 5 _ rfl;have z6:=hZ.at_ 6 _ rfl;have z7:=hZ.at_ 7 _ rfl;have z8:=hZ.at_ 8 _ rfl;have f0:=hZ.fz 0;have f1:=hZ.fz 1;have f2:=hZ.fz 2;have f3:=hZ.fz 3;have f4:=hZ.fz 4;have f5:=hZ.fz 5;have f6:=hZ.fz 6;have f7:=hZ.fz 7;have f8:=hZ.fz 8)
             |((with_reducible refine (KI.out _ (Below.drew ((Calm.refl _).alloc _))).mono ?_);rintro e w7 ⟨⟨A2,c2,rfl,hN7⟩,hc7⟩;have hcx:Calm w4 w7:=Calm.trans (Below.drew ((Calm.refl _).alloc _)) hc7;have hZ:CellsB w7 w4.heap.size zero9:=CellsB.calm (CellsB.calm (CellsB.new w4 #[.slice none 0 0,.bool false,.slice none 0 0,.int .i64 0,.bool false,.slice none 0 0,.bool false,.slice none 0 0,.bool false] 71) (Below.drew (Calm.refl _))) hc7;have z0:=hZ.at_ 0 _ rfl;have z1:=hZ.at_ 1 _ rfl;have z2:=hZ.at_ 2 _ rfl;have z3:=hZ.at_ 3 _ rfl;have z4:=hZ.at_ 4 _ rfl;have z5:=hZ.at_ 5 _ rfl;have z6:=hZ.at_ 6 _ rfl;have z7:=hZ.at_ 7 _ rfl;have z8:=hZ.at_ 8 _ rfl;have f0:=hZ.fz 0;have f1:=hZ.fz 1;have f2:=hZ.fz 2;have f3:=hZ.fz 3;have f4:=hZ.fz 4;have f5:=hZ.fz 5;have f6:=hZ.fz 6;have f7:=hZ.fz 7;have f8:=hZ.fz 8)))
         all_goals
          go_wp2_with fail
          go_meet
          case rel=>
           refine⟨_,A2,c2,rfl,Lib.hid ?_⟩
           first
            |(with_reducible refine ownZ_new hcx (hN7.mono ?_);simp;done)
            |(with_reducible refine ownZ_set hcx (Nat.le_refl _) hZ (hN7.mono ?_);simp;done)
        case rest=>
         obtain⟨B16,A2,c2,rfl,HZ16⟩:=hcut
         have hT:=HLine.out.calm HZ16.out.calm
         have e0:=hT.at_ 0 _ rfl
         have e3:=hT.at_ 3 _ rfl
         have e4:=hT.at_ 4 _ rfl
         have l11:=hT.lt
         have z7:=HZ16.out.z.at_ 7 _ rfl
         have z8:=HZ16.out.z.at_ 8 _ rfl
         have f7:=HZ16.out.z.fz 7
         have f8:=HZ16.out.z.fz 8
         have l16:=HZ16.out.z.lt
         clear hT l15 HSX KI
         have HZc:=Lib.hid HZ16.out.calm
         go_upto_if 87 with (fail)
         go_cut [87] (fun s wx=>∃RA rc rl rrb,Hid (OwnY w9 w4 wx B16 a lp rp HA3 gh hc3 κ RA rc rl rrb (ownR nm x)))
         case first=>
          by_cases hk3:κ=3
          ·subst hk3
           go_wp2_with fail
           go_meet
           case rel=>exact⟨_,_,_,_,ownY_imp HZ16.out HXN.out.1 HRu.out HXN.out.2.2.1 HXN.out.2.2.2.2⟩
          ·have hkb3:(κ == 3)=false:=by simpa using hk3
           have HK3:=Lib.hid hk3
           clear hk3
           go_wp2_with fail
           go_meet
           case rel=>exact⟨_,_,_,_,ownY_own HZ16.out (by rw[HXN.out.1];exact HK3.out) (HI.out.1.own.calm.trans HC4.out).size HXN.out.2.1 HXN.out.2.2.2.1⟩
         case rest=>
          obtain⟨RA,rc,rl,rrb,HY⟩:=hcut
          obtain⟨wy,rfl⟩:∃wy,wy=wc:=⟨_,rfl⟩
          have HCy:Hid (Calm wo wy):=HC4.out.trans HY.out.calm
          have h6:=HB9.out.calm (HI.out.1.own.calm.trans HCy.out)
          have s1:=h6.at_ 1 _ rfl
          have lt6:=h6.lt
          have h15:=HReg.out.calm HY.out.calm
          have y0:=h15.c.at_ 0 _ rfl
          have y1:=h15.c.at_ 1 _ rfl
          have y2:=h15.c.at_ 2 _ rfl
          have l15:=h15.c.lt
          clear h6 h15 e0 e3 e4 l11 z7 z8 f7 f8 l16 HZ16 HZc
          go_upto_if 94 with (fail)
          cases mn with
          |true=>
           have v0:=HY.out.z.at_ 0 _ rfl
           have v1:=HY.out.z.at_ 1 _ rfl
           have v2:=HY.out.z.at_ 2 _ rfl
           have v3:=HY.out.z.at_ 3 _ rfl
           have v4:=HY.out.z.at_ 4 _ rfl
           have v5:=HY.out.z.at_ 5 _ rfl
           have v6:=HY.out.z.at_ 6 _ rfl
           have v7:=HY.out.z.at_ 7 _ rfl
           have v8:=HY.out.z.at_ 8 _ rfl
           have l16:=HY.out.z.lt
           obtain⟨vl,hvl⟩:∃vl,gLen og=vl:=⟨_,rfl⟩
           have hsx:=HSm.out x HXm.out
           have KL:Hid (Calls Tryz.prog 61 #[.agg #[.slice a.AL lp a.cl,.bool rp,.slice HA3 gh hc3]] wy fun e w'=>e=.returned (.int .i64 vl)∧Calm wy w'):=
            rlenG_v og vl lp gh rp a.AL a.cl HA3 hc3 wy (regA_own (HRu.out.calm (HI.out.1.own.calm.trans HCy.out)) hsx.small HOgb.out ((HHs.out.calm HY.out.calm).reads (by rw[HOg.out.2.2.1];omega))) (by rw[HOgb.out];exact (lineOk_path (HOk.out x HXm.out)).1) HGood.out hvl HOg.out.1 HOg.out.2.2.1 HOg.out.2.1
           have HV:=Lib.hid hvl
           clear hvl hsx
           go_wp2_with fail
           refine KL.out.mono ?_
           rintro e w10 ⟨rfl,hc10⟩
           have HC10:Hid (Calm wo w10):=HCy.out.trans hc10
           have HCy10:=Lib.hid hc10
           clear y0 y1 y2 l15 s1 KL
           by_cases hv0:vl=0
           ·subst hv0
            have HA:Hid (capN (rrest true nm ups (ls.drop (k+1)) (zs.map (·.p)))=whole):=by
             show _=_
             have:=HI.out.2
             rw[HDr.out,rrest_void (by rw[HXN.out.1];exact HK4.out) (by rw[HOw.out];exact HV.out)] at this
             exact this
            clear hc10 v0 v1 v2 v3 v4 v5 v6 v7 v8 l16
            go_wp2_with fail
            go_roundw
            case rel=>exact⟨k+1,zs,by omega,by go_num,(HI.out.1.calm HC10.out).le (by omega),HA.out⟩
            case measure=>simp[intOf];omega
           ·have hv1:0 < vl:=by omega
            have hv2:(0:Int) < (vl:Int):=by omega
            have HA:Hid (capN (rrest true nm ups (ls.drop (k+1)) ((zs++[(⟨a.AL,a.cl,HA3,hc3,⟨a.AL,a.cl,RA,rc⟩,⟨og,κ,ownR nm x⟩⟩:NewC)]).map (·.p)))=whole):=by
             show _=_
             have:=HI.out.2
             rw[HDr.out,rrest_main (by rw[HXN.out.1];exact HK4.out) (by rw[HOw.out,HV.out];exact hv0),HOw.out,HXN.out.1] at this
             rw[List.map_append]
             exact this
            have v0:=Calm.at_ hc10 v0 l16
            have v1:=Calm.at_ hc10 v1 l16
            have v2:=Calm.at_ hc10 v2 l16
            have v3:=Calm.at_ hc10 v3 l16
            have v4:=Calm.at_ hc10 v4 l16
            have v5:=Calm.at_ hc10 v5 l16
            have v6:=Calm.at_ hc10 v6 l16
            have v7:=Calm.at_ hc10 v7 l16
            have v8:=Calm.at_ hc10 v8 l16
            have l16:=Nat.lt_of_lt_of_le l16 hc10.size
            have HPO:Hid (PcO w9 w10 ⟨a.AL,a.cl,HA3,hc3,⟨a.AL,a.cl,RA,rc⟩,⟨og,κ,ownR nm x⟩⟩):=
             pcO_own HRu.out (HI.out.1.own.calm.trans HC10.out) (HSm.out x HXm.out).small HOgb.out (HHs.out.calm (HY.out.calm.trans HCy10.out)) (by rw[HOg.out.2.2.1];omega) (HY.out.r.calm HCy10.out) (by rw[HY.out.rl.1];exact HY.out.rl.2.2)
            have HOL:Hid ((ownR nm x).excl=false∧(ownR nm x).left.parts.length=lp∧(ownR nm x).left.rest=rp):=⟨ownR_left.2,by rw[ownR_left.1];exact HXN.out.2.1,by rw[ownR_left.1];exact HXN.out.2.2.2.1⟩
            clear hc10 hv0
            go_wp2_with (at_builtin;refine wpList_append_rp rfl (.tmp 98) (.tmp 100) rfl w9 _ zs [⟨a.AL,a.cl,HA3,hc3,⟨a.AL,a.cl,RA,rc⟩,⟨og,κ,ownR nm x⟩⟩] rfl (HI.out.1.own.to (HC10.out.alloc _)) _ 1 1 rfl rfl (read_newC ⟨a.AL,a.cl,HA3,hc3,⟨a.AL,a.cl,RA,rc⟩,⟨og,κ,ownR nm x⟩⟩ (by simp) HOg.out.1 HOg.out.2.1 HOg.out.2.2.1 rfl HOL.out.1 HOL.out.2.1 HOL.out.2.2 HY.out.rl.1 HY.out.rl.2.1) (by rw[HZ.out];omega) ?_;intro v11 w11 hown11 hg11 hf11)
            have HRel:=Lib.hid ((HI.out.1.add (z:=⟨a.AL,a.cl,HA3,hc3,⟨a.AL,a.cl,RA,rc⟩,⟨og,κ,ownR nm x⟩⟩) (HC10.out.alloc _) (HPO.out.calm ((Calm.refl _).alloc _)) hg11 hown11).le (show k * 32+1≤(k+1) * 32 by omega))
            go_roundw
            case rel=>exact⟨k+1,zs++[(⟨a.AL,a.cl,HA3,hc3,⟨a.AL,a.cl,RA,rc⟩,⟨og,κ,ownR nm x⟩⟩:NewC)],by omega,by go_num,HRel.out,HA.out⟩
            case measure=>simp[intOf];omega
          |false=>
           obtain⟨rest,hrest⟩:∃rest,ls.drop (k+1)=rest:=⟨_,rfl⟩
           have HGo:Hid (capN (rcontP nm ups og x rest ups (zs.map (·.p)))=whole):=by
            show _=_
            have:=HI.out.2
            rw[HDr.out,rrest_go (by rw[HXN.out.1];exact HK4.out),HOw.out,hrest] at this
            exact this
           have HRest:=Lib.hid hrest
           have HJ0:Hid (RpJ w9 wy (.slice VA Z vc) zs (k * 32+0) B15 B16 [.slice a.AL lp a.cl,.bool rp,.slice HA3 gh hc3] [.slice a.AL lp a.cl,.bool rp,.slice HA3 gh hc3,.int .i64 κ,.bool false,.slice a.AL lp a.cl,.bool rp,.slice RA rl rc,.bool rrb] HA3 hc3 og RA rc (ownR nm x).right.parts):=
            ⟨(HI.out.1.calm HCy.out).le (by omega),HReg.out.calm HY.out.calm,HY.out.z,ownX_below HI.out.1.own (Nat.le_trans HC4.out.size HY.out.ge),HHs.out.calm HY.out.calm,HY.out.r⟩
           clear hrest y0 y1 y2 l15 s1
           go_wp2_with fail
           go_loopw [9,104] (fun v u wr=>∃(m:Nat) (zs2:List NewC),m≤un∧u=.int .i64 m∧Hid (RpJ w9 wr v zs2 (k * 32+m) B15 B16 [.slice a.AL lp a.cl,.bool rp,.slice HA3 gh hc3] [.slice a.AL lp a.cl,.bool rp,.slice HA3 gh hc3,.int .i64 κ,.bool false,.slice a.AL lp a.cl,.bool rp,.slice RA rl rc,.bool rrb] HA3 hc3 og RA rc (ownR nm x).right.parts)∧Hid (capN (rcontP nm ups og x rest (ups.drop m) (zs2.map (·.p)))=whole)) (fun _ u _=>un - (intOf u).toNat)
           case atStart=>exact⟨0,zs,Nat.zero_le _,rfl,HJ0.out,by rw[List.drop_zero];exact HGo.out⟩
           case round=>
            obtain⟨m,zs2,hm,rfl,HJ,HCt⟩:=hrel
            obtain⟨wz,rfl⟩:∃wz,wz=wr:=⟨_,rfl⟩
            obtain⟨VA2,vc2,hv⟩:=HJ.out.pc.own.len_shape
            obtain⟨Z2,hZ2⟩:∃Z2,zs2.length=Z2:=⟨_,rfl⟩
            rw[hZ2] at hv
            subst hv
            have HZ2:=Lib.hid hZ2
            have hzf2:=HJ.out.pc.few
            rw[hZ2] at hzf2
            clear hZ2
            by_cases hlt3:m < un
            ·obtain⟨bu,ou,z,rfl,hbu,hzm,hz9,hza⟩:=HUR.out.get (k:=m) (by rw[HLen.out.1];exact hlt3)
             obtain⟨gb,hgb⟩:∃gb,z.p.region.b.parts.length=gb:=⟨_,rfl⟩
             obtain⟨gr,hgr⟩:∃gr,z.p.region.b.rest=gr:=⟨_,rfl⟩
             obtain⟨gk,hgk⟩:∃gk,z.p.region.hs.length=gk:=⟨_,rfl⟩
             obtain⟨pk,hpk⟩:∃pk,z.p.kind=pk:=⟨_,rfl⟩
             obtain⟨ex,hex⟩:∃ex,z.p.line.excl=ex:=⟨_,rfl⟩
             obtain⟨il,hil⟩:∃il,z.p.line.left.parts.length=il:=⟨_,rfl⟩
             obtain⟨lr,hlr⟩:∃lr,z.p.line.left.rest=lr:=⟨_,rfl⟩
             obtain⟨ir,hir⟩:∃ir,z.p.line.right.parts.length=ir:=⟨_,rfl⟩
             obtain⟨rr,hrr⟩:∃rr,z.p.line.right.rest=rr:=⟨_,rfl⟩
             have cw:=HJ.out.pc.own.calm
             have x0:=Calm.at_ cw hz9.c0 hbu
             have x1:=Calm.at_ cw hz9.c1 hbu
             have x2:=Calm.at_ cw hz9.c2 hbu
             have x3:=Calm.at_ cw hz9.c3 hbu
             have x4:=Calm.at_ cw hz9.c4 hbu
             have x5:=Calm.at_ cw hz9.c5 hbu
             have x6:=Calm.at_ cw hz9.c6 hbu
             have x7:=Calm.at_ cw hz9.c7 hbu
             have x8:=Calm.at_ cw hz9.c8 hbu
             rw[hgb] at x0
             rw[hgr] at x1
             rw[hgk] at x2
             rw[hpk] at x3
             rw[hex] at x4
             rw[hil] at x5
             rw[hlr] at x6
             rw[hir] at x7
             rw[hrr] at x8
             have hbu:=Nat.lt_of_lt_of_le hbu cw.size
             have y0:=HJ.out.reg.c.at_ 0 _ rfl
             have y1:=HJ.out.reg.c.at_ 1 _ rfl
             have y2:=HJ.out.reg.c.at_ 2 _ rfl
             have ly:=HJ.out.reg.c.lt
             have hup:=HUps.out.1 z.p (List.mem_of_getElem? hzm)
             have hgk64:gk≤64:=by
              rw[←hgk]
              exact (gErr_zero hup.1.g).2.2
             have HUpz:=Lib.hid hup
             have HZN:Hid (z.p.region.b.parts.length=gb∧z.p.region.b.rest=gr∧z.p.region.hs.length=gk∧z.p.kind=pk):=⟨hgb,hgr,hgk,hpk⟩
             have HZL:Hid (z.p.line.left.parts.length=il∧z.p.line.right.parts.length=ir∧z.p.line.left.rest=lr∧z.p.line.right.rest=rr∧z.p.line.excl=ex):=⟨hil,hir,hlr,hrr,hex⟩
             have HZa:Hid (PcA wz z):=hza.calm cw
             have HDu:Hid (ups.drop m=z.p :: ups.drop (m+1)):=by
              show _=_
              obtain⟨h1,h2⟩:=List.getElem?_eq_some_iff.1 hzm
              rw[List.drop_eq_getElem_cons h1,h2]
             have HCw:Hid (Calm w wz):=HC9.out.trans cw
             clear cw hz9 hza hzm hup hgb hgr hgk hpk hex hil hlr hir hrr
             go_wp2_with fail
             obtain⟨w7,hw7⟩:∃w7,w7=wz.alloc (.cells #[.slice z.A gb z.c,.bool gr,.slice z.HA gk z.hc,.int .i64 pk,.bool ex,.slice z.a.AL il z.a.cl,.bool lr,.slice z.a.AR ir z.a.cr,.bool rr] 71):=⟨_,rfl⟩
             obtain⟨B18,hB18⟩:∃B18,wz.heap.size=B18:=⟨_,rfl⟩
             have hc7:Calm wz w7:=by
              show Below _ _ _
              rw[hw7]
              exact (Calm.refl _).alloc _
             have H18:Hid (CellsB w7 B18 [.slice z.A gb z.c,.bool gr,.slice z.HA gk z.hc,.int .i64 pk,.bool ex,.slice z.a.AL il z.a.cl,.bool lr,.slice z.a.AR ir z.a.cr,.bool rr]):=by
              show CellsB _ _ _
              rw[hw7,←hB18]
              exact CellsB.new wz _ _
             rw[←hw7]
             try simp only[hB18]
             have HC7:=Lib.hid hc7
             have HRg7:Hid (RegA w7 a.AL a.cl HA3 og.b og.hs):=regA_own (HRu.out.calm (HJ.out.pc.own.calm.trans hc7)) (HSm.out x HXm.out).small HOgb.out ((HJ.out.hs.calm hc7).reads (by rw[HOg.out.2.2.1];omega))
             clear hw7 hB18 hc7 x0 x1 x2 x3 x4 x5 x6 x7 x8 y0 y1 y2 ly
             obtain⟨G,hG⟩:∃G,(meetR og z.p.region).1.getD zeroReg=G:=⟨_,rfl⟩
             obtain⟨ok,hok⟩:∃ok,(meetR og z.p.region).1.isSome=ok:=⟨_,rfl⟩
             obtain⟨er,her⟩:∃er,(meetR og z.p.region).2=er:=⟨_,rfl⟩
             obtain⟨gn,hgn⟩:∃gn,G.b.parts.length=gn:=⟨_,rfl⟩
             obtain⟨gm,hgm⟩:∃gm,G.hs.length=gm:=⟨_,rfl⟩
             obtain⟨gr4,hgr4⟩:∃gr4,G.b.rest=gr4:=⟨_,rfl⟩
             refine (rgmeet_c og z.p.region G ok er gn gm gr4 lp gh gb gk rp gr a.AL a.cl HA3 hc3 z.A z.c z.HA z.hc w7 HRg7.out (HZa.out.g.calm HC7.out) HOg.out.1 HOg.out.2.2.1 HOg.out.2.1 HZN.out.1 HZN.out.2.2.1 HZN.out.2.1 (by omega) hG hok her hgn hgm hgr4).mono ?_
             rintro e w8 ⟨⟨A4,c4,HA4,hc4,rfl,hR⟩,hc8⟩
             have HC8:Hid (Calm wz w8):=HC7.out.trans hc8
             have HC78:Hid (Calm w7 w8):=hc8
             have HR:=Lib.hid hR
             have HG4:=Lib.hid (And.intro hgn (And.intro hgm hgr4))
             clear hc8 hR hgn hgm hgr4
             by_cases her0:er=0
             ·subst her0
              cases ok with
              |false=>
               have HA:Hid (capN (rcontP nm ups og x rest (ups.drop (m+1)) (zs2.map (·.p)))=whole):=by
                show _=_
                have:=HCt.out
                rw[HDu.out,rcont_skip her (by
                 rcases hmm:(meetR og z.p.region).1 with _ | g
                 ·rfl
                 ·rw[hmm] at hok
                  cases hok)] at this
                exact this
               clear her hok hG
               go_wp2_with fail
               go_roundw
               case rel=>exact⟨m+1,zs2,by omega,by go_num,(HJ.out.calm (HC8.out.alloc _)).le (by omega),HA.out⟩
               case measure=>simp[intOf];omega
              |true=>
               have hmg:(meetR og z.p.region).1=some G:=by
                rcases hmm:(meetR og z.p.region).1 with _ | g
                ·rw[hmm] at hok
                 cases hok
                ·rw[hmm] at hG
                 rw[←hG]
                 rfl
               have hgz:gErr G=0:=(meetR_some hmg).2.2.2.1
               have HM:=Lib.hid (And.intro her (And.intro hmg hgz))
               have HSw:Hid (SmallR (rwide nm x z.p)):=rwide_small HNm40 (HSm.out x HXm.out) HUpz.out.1 HUpz.out.2
               clear her hok hG hmg hgz
               have b16:=HJ.out.z.calm HC8.out
               have v3:=b16.at_ 3 _ rfl
               have v4:=b16.at_ 4 _ rfl
               have v5:=b16.at_ 5 _ rfl
               have v6:=b16.at_ 6 _ rfl
               have v7:=b16.at_ 7 _ rfl
               have v8:=b16.at_ 8 _ rfl
               have l16:=b16.lt
               clear b16
               go_upto_block 6 with (fail)
               obtain⟨w11,hw11⟩:∃w11,w11=w8.alloc (.cells #[.slice A4 gn c4,.bool gr4,.slice HA4 gm hc4] 67):=⟨_,rfl⟩
               obtain⟨w12,hw12⟩:∃w12,w12=w11.alloc (.cells #[.slice A4 gn c4,.bool gr4,.slice HA4 gm hc4,.int .i64 κ,.bool false,.slice a.AL lp a.cl,.bool rp,.slice RA rl rc,.bool rrb] 71):=⟨_,rfl⟩
               obtain⟨B19,hB19⟩:∃B19,w8.heap.size=B19:=⟨_,rfl⟩
               obtain⟨B22,hB22⟩:∃B22,B19+1=B22:=⟨_,rfl⟩
               have hc11:Calm w8 w11:=by
                show Below _ _ _
                rw[hw11]
                exact (Calm.refl _).alloc _
               have hc12:Calm w11 w12:=by
                show Below _ _ _
                rw[hw12]
                exact (Calm.refl _).alloc _
               have hs11:w11.heap.size=B22:=by
                rw[hw11,←hB22,←hB19]
                simp
               have H19:Hid (CellsB w11 B19 [.slice A4 gn c4,.bool gr4,.slice HA4 gm hc4]):=by
                show CellsB _ _ _
                rw[hw11,←hB19]
                exact CellsB.new w8 _ _
               have HC8c:Hid (Calm w8 w11):=hc11
               have H22:Hid (CellsB w12 B22 [.slice A4 gn c4,.bool gr4,.slice HA4 gm hc4,.int .i64 κ,.bool false,.slice a.AL lp a.cl,.bool rp,.slice RA rl rc,.bool rrb]):=by
                show CellsB _ _ _
                rw[←hs11,hw12]
                exact CellsB.new w11 _ _
               rw[←hw11,←hw12]
               try simp only[hB19,hB22]
               have HC11:Hid (Calm wz w11):=HC8.out.trans hc11
               have HC12:Hid (Calm w11 w12):=hc12
               have HC8b:Hid (Calm w8 w12):=hc11.trans hc12
               have HSz:Hid (w11.heap.size≤B22∧w8.heap.size≤B22∧wz.heap.size≤B22):=⟨Nat.le_of_eq hs11,by omega,by have:=(HC8.out.trans hc11).size;omega⟩
               have H18b:Hid (CellsB w12 B18 [.slice z.A gb z.c,.bool gr,.slice z.HA gk z.hc,.int .i64 pk,.bool ex,.slice z.a.AL il z.a.cl,.bool lr,.slice z.a.AR ir z.a.cr,.bool rr]):=H18.out.calm (HC78.out.trans (hc11.trans hc12))
               have v3:=Calm.at_ (hc11.trans hc12) v3 l16
               have l16:=Nat.lt_of_lt_of_le l16 (hc11.trans hc12).size
               have x3:=H18b.out.at_ 3 _ rfl
               have x4:=H18b.out.at_ 4 _ rfl
               have x5:=H18b.out.at_ 5 _ rfl
               have x6:=H18b.out.at_ 6 _ rfl
               have x7:=H18b.out.at_ 7 _ rfl
               have x8:=H18b.out.at_ 8 _ rfl
               have l18:=H18b.out.lt
               have q3:=H22.out.at_ 3 _ rfl
               have q4:=H22.out.at_ 4 _ rfl
               have q5:=H22.out.at_ 5 _ rfl
               have q6:=H22.out.at_ 6 _ rfl
               have q7:=H22.out.at_ 7 _ rfl
               have q8:=H22.out.at_ 8 _ rfl
               have f3:=H22.out.fz 3
               have f4:=H22.out.fz 4
               have f5:=H22.out.fz 5
               have f6:=H22.out.fz 6
               have f7:=H22.out.fz 7
               have f8:=H22.out.fz 8
               have l22:=H22.out.lt
               clear hw11 hw12 hB19 hB22 hc11 hc12 hs11 v4 v5 v6 v7 v8
               go_cut [126] (fun s wx=>∃kk a3 l r lr2 rr2 ex2,rkind x z.p=kk∧Hid (ZAt w11 wx B22 [.slice A4 gn c4,.bool gr4,.slice HA4 gm hc4] kk (rwide nm x z.p) a3 l r lr2 rr2 ex2))
               case first=>
                by_cases hk3:pk=3
                ·subst hk3
                 have HK:Hid (rkind x z.p=3):=by
                  show _=_
                  unfold rkind
                  rw[if_pos HZN.out.2.2.2]
                 have HD:Hid (rwide nm x z.p=z.p.line):=by
                  show _=_
                  unfold rwide
                  rw[if_pos HZN.out.2.2.2]
                 have HUw:Hid (RuleU wz z.a z.p.line):=HZa.out.r
                 have HNn:Hid (z.p.line.left.parts.length=il∧z.p.line.right.parts.length=ir∧z.p.line.left.rest=lr∧z.p.line.right.rest=rr∧z.p.line.excl=ex):=HZL.out
                 have HCd:Hid (Calm w11 w12.drew∧CellsB w12.drew B22 [.slice A4 gn c4,.bool gr4,.slice HA4 gm hc4,.int .i64 κ,.bool false,.slice a.AL lp a.cl,.bool rp,.slice RA rl rc,.bool rrb]):=⟨Below.drew HC12.out,H22.out.calm (Below.drew (Calm.refl _))⟩
                 go_wp2_with fail
                 go_region
                 all_goals
                  go_wp2_with fail
                  go_meet
                  case rel=>
                   refine⟨3,z.a,il,ir,lr,rr,ex,HK.out,Lib.hid ?_⟩
                   rw[HD.out]
                   first
                    |with_reducible exact zAt_six HC11.out HC12.out HSz.out.1 H22.out HUw.out HNn.out
                    |with_reducible exact zAt_six2 HC11.out HC12.out HSz.out.1 H22.out HUw.out HNn.out
                    |with_reducible exact zAt_six HC11.out HCd.out.1 HSz.out.1 HCd.out.2 HUw.out HNn.out
                    |with_reducible exact zAt_six2 HC11.out HCd.out.1 HSz.out.1 HCd.out.2 HUw.out HNn.out
                    |with_reducible exact (zAt_six HC11.out HC12.out HSz.out.1 H22.out HUw.out HNn.out).to (Below.drew (Calm.refl _))
                    |with_reducible exact (zAt_six2 HC11.out HC12.out HSz.out.1 H22.out HUw.out HNn.out).to (Below.drew (Calm.refl _))
                ·have hkb3:(pk == 3)=false:=by simpa using hk3
                 have HD:Hid (rwide nm x z.p=ownR nm x):=by
                  show _=_
                  unfold rwide
                  rw[if_neg (by rw[HZN.out.2.2.2];exact hk3)]
                 have HUw:Hid (RuleU wz ⟨a.AL,a.cl,RA,rc⟩ (ownR nm x)):=ownR_u HRu.out HJ.out.pc.own.calm HJ.out.r (by rw[HY.out.rl.1];exact HY.out.rl.2.2)
                 have HNn:Hid ((ownR nm x).left.parts.length=lp∧(ownR nm x).right.parts.length=rl∧(ownR nm x).left.rest=rp∧(ownR nm x).right.rest=rrb∧(ownR nm x).excl=false):=⟨by rw[ownR_left.1];exact HXN.out.2.1,HY.out.rl.1,by rw[ownR_left.1];exact HXN.out.2.2.2.1,HY.out.rl.2.1,ownR_left.2⟩
                 by_cases hk1:κ=1
                 ·subst hk1
                  have HK:Hid (rkind x z.p=pk):=by
                   show _=_
                   unfold rkind
                   rw[HZN.out.2.2.2,if_neg hk3,if_pos HXN.out.1]
                  clear hk3
                  go_wp2_with fail
                  go_meet
                  case rel=>
                   refine⟨pk,⟨a.AL,a.cl,RA,rc⟩,lp,rl,rp,rrb,false,HK.out,Lib.hid ?_⟩
                   rw[HD.out]
                   exact zAt_keep HC11.out (Below.setCell (p:=⟨B22,3,none⟩) HC12.out HSz.out.1 _) HSz.out.1 (H22.out.set1 3 (by simp) (.int .i64 pk)) HUw.out HNn.out
                 ·have hkb1:(κ == 1)=false:=by simpa using hk1
                  have HK:Hid (rkind x z.p=κ):=by
                   show _=_
                   unfold rkind
                   rw[HZN.out.2.2.2,if_neg hk3,HXN.out.1,if_neg hk1]
                  clear hk3 hk1
                  go_wp2_with fail
                  go_meet
                  case rel=>
                   refine⟨κ,⟨a.AL,a.cl,RA,rc⟩,lp,rl,rp,rrb,false,HK.out,Lib.hid ?_⟩
                   rw[HD.out]
                   exact zAt_keep HC11.out HC12.out HSz.out.1 H22.out HUw.out HNn.out
               case rest=>
                obtain⟨kk,a3,l,r,lr2,rr2,ex2,hkk,HZz⟩:=hcut
                obtain⟨wk,rfl⟩:∃wk,wk=wc:=⟨_,rfl⟩
                have HKk:=Lib.hid hkk
                clear v3 l16 x3 x4 x5 x6 x7 x8 l18 q3 q4 q5 q6 q7 q8 f3 f4 f5 f6 f7 f8 l22 hkk
                have HCk:Hid (Calm w8 wk):=HC8c.out.trans HZz.out.calm
                have hcz:=HZz.out.cells
                have q4:=hcz.at_ 4 _ rfl
                have q5:=hcz.at_ 5 _ rfl
                have q6:=hcz.at_ 6 _ rfl
                have q7:=hcz.at_ 7 _ rfl
                have q8:=hcz.at_ 8 _ rfl
                have l22:=hcz.lt
                have h19:=H19.out.calm HZz.out.calm
                have r0:=h19.at_ 0 _ rfl
                have r1:=h19.at_ 1 _ rfl
                have l19:=h19.lt
                have HL22:=Lib.hid l22
                have KN:Hid (Calls Tryz.prog 63 #[.agg #[.bool ex2,.slice a3.AL l a3.cl,.bool lr2,.slice a3.AR r a3.cr,.bool rr2],.agg #[.slice A4 gn c4,.bool gr4]] wk fun e w'=>NarEnd (narL (rwide nm x z.p) G.b) wk.heap.size e w'∧Calm wk w'):=by
                 have:=rnleft_c (rwide nm x z.p) G.b a3 gn c4 gr4 A4 wk HZz.out.u HSw.out ((HR.out.base.calm HCk.out).a) HG4.out.1 HG4.out.2.2
                 unfold ruleV at this
                 rw[HZz.out.nn.1,HZz.out.nn.2.1,HZz.out.nn.2.2.1,HZz.out.nn.2.2.2.1,HZz.out.nn.2.2.2.2] at this
                 exact this
                clear hcz h19
                go_wp2_with fail
                refine KN.out.mono ?_
                rintro e w13 ⟨hE,hc13⟩
                obtain⟨a4,nr,okb,er2,rfl,hRN,hnr,her2⟩:=narEnd_any hE
                obtain⟨qx,hqx⟩:∃qx,nr.excl=qx:=⟨_,rfl⟩
                obtain⟨ql,hql⟩:∃ql,nr.left.parts.length=ql:=⟨_,rfl⟩
                obtain⟨qlr,hqlr⟩:∃qlr,nr.left.rest=qlr:=⟨_,rfl⟩
                obtain⟨qr,hqr⟩:∃qr,nr.right.parts.length=qr:=⟨_,rfl⟩
                obtain⟨qrr,hqrr⟩:∃qrr,nr.right.rest=qrr:=⟨_,rfl⟩
                have hen:ruleV a4 nr=.agg #[.bool qx,.slice a4.AL ql a4.cl,.bool qlr,.slice a4.AR qr a4.cr,.bool qrr]:=by
                 unfold ruleV
                 rw[hqx,hql,hqlr,hqr,hqrr]
                rw[hen]
                have HQN:Hid (nr.excl=qx∧nr.left.parts.length=ql∧nr.left.rest=qlr∧nr.right.parts.length=qr∧nr.right.rest=qrr):=⟨hqx,hql,hqlr,hqr,hqrr⟩
                have HC13:Hid (Calm wk w13):=hc13
                have HRN:=Lib.hid hRN
                have HNr:=Lib.hid hnr
                have HE2:=Lib.hid her2
                clear hE hqx hql hqlr hqr hqrr hen hRN hnr her2 q4 q5 q6 q7 q8 l22 r0 r1 l19 KN
                by_cases her20:er2=0
                ·subst her20
                 have HA:Hid (capN (rcontP nm ups og x rest (ups.drop (m+1)) ((zs2++[(⟨A4,c4,HA4,hc4,a4,⟨G,kk,nr⟩⟩:NewC)]).map (·.p)))=whole):=by
                  show _=_
                  have:=HCt.out
                  rw[HDu.out,rcont_add HM.out.1 HM.out.2.1 (rnar_zero HE2.out HNr.out HKk.out)] at this
                  rw[List.map_append]
                  exact this
                 have hcz:=HZz.out.cells.calm hc13
                 have q0:=hcz.at_ 0 _ rfl
                 have q1:=hcz.at_ 1 _ rfl
                 have q2:=hcz.at_ 2 _ rfl
                 have q3:=hcz.at_ 3 _ rfl
                 have q4:=hcz.at_ 4 _ rfl
                 have q5:=hcz.at_ 5 _ rfl
                 have q6:=hcz.at_ 6 _ rfl
                 have q7:=hcz.at_ 7 _ rfl
                 have q8:=hcz.at_ 8 _ rfl
                 have f4:=hcz.fz 4
                 have f5:=hcz.fz 5
                 have f6:=hcz.fz 6
                 have f7:=hcz.fz 7
                 have f8:=hcz.fz 8
                 have l22:=hcz.lt
                 have HCf:Hid (∀u4 u5 u6 u7 u8 X Y,Calm wz (((set5b w13 B22 u4 u5 u6 u7 u8).alloc X).alloc Y)):=fun u4 u5 u6 u7 u8 X Y=>((calm5b (HC11.out.trans (HZz.out.calm.trans HC13.out)) HSz.out.2.2 u4 u5 u6 u7 u8).alloc _).alloc _
                 have HPO:Hid (∀u4 u5 u6 u7 u8 X Y,PcO w9 (((set5b w13 B22 u4 u5 u6 u7 u8).alloc X).alloc Y) ⟨A4,c4,HA4,hc4,a4,⟨G,kk,nr⟩⟩):=fun u4 u5 u6 u7 u8 X Y=>
                  pcO_new (HR.out.calm (((calm5b (HCk.out.trans HC13.out) HSz.out.2.1 u4 u5 u6 u7 u8).alloc _).alloc _)) ((HRN.out.set5b HL22.out u4 u5 u6 u7 u8).calm (((Calm.refl _).alloc _).alloc _)) (HJ.out.pc.own.calm.trans HC7.out).size (HJ.out.pc.own.calm.trans (HC11.out.trans HZz.out.calm)).size (by have:=(gErr_zero HM.out.2.2).2.2;omega)
                 clear hcz hc13
                 go_upto_region 42 with (fail)
                 go_wp2_with (at_builtin;refine wpList_append_rp rfl (.tmp 156) (.tmp 158) rfl w9 _ zs2 [⟨A4,c4,HA4,hc4,a4,⟨G,kk,nr⟩⟩] rfl (HJ.out.pc.own.to (HCf.out _ _ _ _ _ _ _)) _ 1 1 rfl rfl (read_newC ⟨A4,c4,HA4,hc4,a4,⟨G,kk,nr⟩⟩ (by simp) HG4.out.1 HG4.out.2.2 HG4.out.2.1 rfl HQN.out.1 HQN.out.2.1 HQN.out.2.2.1 HQN.out.2.2.2.1 HQN.out.2.2.2.2) (by rw[HZ2.out];omega) ?_;intro v11 w14 hown11 hg11 hf11)
                 have HRel:=Lib.hid ((HJ.out.add (z:=⟨A4,c4,HA4,hc4,a4,⟨G,kk,nr⟩⟩) (HCf.out _ _ _ _ _ _ _) (HPO.out _ _ _ _ _ _ _) hg11 hf11 hown11).le (show k * 32+m+1≤k * 32+(m+1) by omega))
                 go_roundw
                 case rel=>exact⟨m+1,zs2++[(⟨A4,c4,HA4,hc4,a4,⟨G,kk,nr⟩⟩:NewC)],by omega,by go_num,HRel.out,HA.out⟩
                 case measure=>simp[intOf];omega
                ·have her21:(er2 != 0)=true:=by simpa using her20
                 have HE:Hid (whole=none):=by
                  show _=_
                  rw[←HCt.out,HDu.out,rcont_stop HM.out.1 HM.out.2.1 (rnar_none HE2.out her20)]
                  rfl
                 have HCe:Hid (Calm w w13):=HCw.out.trans (HC11.out.trans (HZz.out.calm.trans hc13))
                 clear hc13
                 go_wp2_with fail
                 go_ret2
                 exact⟨.inl ⟨HE.out,_,rfl⟩,HCe.out.alloc _⟩
             ·have her1:(er != 0)=true:=by simpa using her0
              have HE:Hid (whole=none):=by
               show _=_
               rw[←HCt.out,HDu.out,rcont_fail (by rw[her];exact her0)]
               rfl
              clear her hok hG
              go_wp2_with fail
              go_ret2
              exact⟨.inl ⟨HE.out,_,rfl⟩,(HCw.out.trans HC8.out).alloc _⟩
            ·obtain rfl:m=un:=by omega
             have HA:Hid (capN (rrest false nm ups (ls.drop (k+1)) (zs2.map (·.p)))=whole):=by
              show _=_
              have:=HCt.out
              rw[←HLen.out.1,List.drop_length,rcont_nil] at this
              rw[HRest.out]
              exact this
             go_wp2_with fail
             go_roundw
             case rel=>exact⟨k+1,zs2,by omega,by go_num,HJ.out.pc.le (by omega),HA.out⟩
             case measure=>simp[intOf];omega
   ·obtain rfl:k=np:=by omega
    obtain⟨A',c',hsl,h1,h2,h3⟩:=HI.out.1.reads
    rw[HZ.out] at hsl h1
    have HE:Hid (capN (some (zs.map (·.p)))=whole):=by
     show _=_
     have:=HI.out.2
     rw[←HLen.out.2,List.drop_length,rrest_nil] at this
     exact this
    have HR9:=Lib.hid (And.intro h3 (And.intro h1 h2))
    have HC9':Hid (Calm w wo):=HC9.out.trans HI.out.1.own.calm
    have HSl:=Lib.hid hsl
    clear h1 h2 h3 HI hsl
    by_cases h32:Z≤32
    ·have hz32:(Z:Int)≤32:=by omega
     have HE2:Hid (whole=some (zs.map (·.p))):=by
      show _=_
      rw[←HE.out]
      unfold capN
      simp only
      rw[if_pos (by rw[List.length_map,HZ.out];exact h32)]
     go_wp2_with fail
     go_ret2
     exact⟨.inr ⟨zs.map (·.p),VA,vc,HE2.out,by rw[List.length_map,HZ.out];rfl,by
      obtain⟨rfl,_,rfl⟩:VA=A'∧True∧vc=c':=by have:=HSl.out;injection this with i1 i2 i3;exact⟨i1,trivial,i3⟩
      exact HR9.out.1,by rw[List.length_map,HZ.out];have:=HSl.out;injection this with i1 i2 i3;rw[i3];exact HR9.out.2.1,by have:=HSl.out;injection this with i1 i2 i3;rw[i3];exact HR9.out.2.2⟩,HC9'.out⟩
    ·have hz32:¬(Z:Int)≤32:=by omega
     have HE2:Hid (whole=none):=by
      show _=_
      rw[←HE.out]
      unfold capN
      simp only
      rw[if_neg (by rw[List.length_map,HZ.out];exact h32)]
     go_wp2_with fail
     go_ret2
     exact⟨.inl ⟨HE2.out,_,rfl⟩,HC9'.out⟩
end Go.Proofs.YtdcdabbepnahnaaGreatDoor
