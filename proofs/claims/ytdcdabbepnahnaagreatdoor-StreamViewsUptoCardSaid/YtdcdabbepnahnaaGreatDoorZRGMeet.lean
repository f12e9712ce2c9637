/- Walk: the reference's intersection of two regions; what comes out lies in new memory. -/
import Derived.Test.YtdcdabbepnahnaaGreatDoorZGMeet
import Derived.Test.YtdcdabbepnahnaaGreatDoorZRSimpW
set_option linter.unusedVariables false
set_option linter.unusedSimpArgs false
namespace Go.Proofs.YtdcdabbepnahnaaGreatDoor
open Go Go.RowKit Sy
def zeroReg:Reg:=⟨⟨[],false⟩,[]⟩
theorem own_reads {w0 W:World} {A:Option Addr} {n c:Nat} {l:List NewP} (h:OwnX encP 2 51 w0 W (.slice A n c) l) (he:∀x∈l,PatA W x.A x.c x.p) (hl:l.length≤16384):PatsR W A (l.map (·.p)):=by
 obtain⟨A',c',hv,_,_,hX⟩:=h.places he
 obtain⟨rfl,_,_⟩:A=A'∧n=l.length∧c=c':=by simpa using hv
 exact hX.reads hl
structure ZeroK (W:World) (b:Nat):Prop where
 z:ZeroAt W b
 kind:∃cs,W.heap[b]?=some (.cells cs 67 (0,0))
theorem ZeroK.calm {W W':World} {b:Nat} (h:ZeroK W b) (hc:Calm W W'):ZeroK W' b:=⟨h.z.calm hc,by obtain⟨cs,hh⟩:=h.kind;exact⟨cs,(hc.block _ h.z.lt).trans hh⟩⟩
theorem ZeroK.own {W W' w0:World} {b n:Nat} {v:Value} {xs:List Value} (h:ZeroK W b) (hown:W.ownsRow w0.heap.size 51 2 v n xs) (hg:W.grownBy W' v.ownBlock):ZeroK W' b:=by
 have hne:some b≠v.ownBlock:=fun e=>by
  obtain⟨cs,hh⟩:=h.kind
  rcases hown.2 with⟨rfl,_⟩ | ⟨g',cap,cur,rfl,_,hgh,_⟩
  ·simp[Value.ownBlock] at e
  ·have e2:b=g':=by simpa[Value.ownBlock] using e
   rw[e2,hgh] at hh
   injection hh with hh
   injection hh with _ ht
   exact absurd ht (by decide)
 have hb:=hg.block b h.z.lt hne
 have hcell:∀o,W'.cell? ⟨b,o,none⟩=W.cell? ⟨b,o,none⟩:=fun o=>World.cell?_of_block (a:=⟨b,o,none⟩) hb
 have hfr:∀o,W'.frozen? ⟨b,o,none⟩=W.frozen? ⟨b,o,none⟩:=fun o=>World.frozen?_of_block (a:=⟨b,o,none⟩) hb
 exact⟨⟨Nat.lt_of_lt_of_le h.z.lt hg.size,(hcell 0).trans h.z.z0,(hcell 1).trans h.z.z1,(hcell 2).trans h.z.z2,(hfr 0).trans h.z.f0,(hfr 1).trans h.z.f1,(hfr 2).trans h.z.f2⟩,by obtain⟨cs,hh⟩:=h.kind;exact⟨cs,hb.trans hh⟩⟩
theorem zk_new (w:World):ZeroK (w.alloc (.cells #[.slice none 0 0,.bool false,.slice none 0 0] 67)) w.heap.size:=⟨zero_c w,⟨_,heap_alloc_new w _⟩⟩
theorem zk_newd (w:World):ZeroK (w.alloc (.cells #[.slice none 0 0,.bool false,.slice none 0 0] 67)).drew w.heap.size:=(zk_new w).calm (Below.drew (Calm.refl _))
theorem redB_set {w4 w7:World} {b B P:Nat} {A3:Option Addr} {n3 c3:Nat} {re3:Bool} {HA3:Option Addr} {m3 hc3:Nat} {mm:Pat} {hs:List Pat} (hz:ZeroK w7 b) (hcy:Calm w4 w7) (h4:w4.heap.size≤b) (hb:b < P) (hP:B≤P) (hm:SmallN w4 B ⟨A3,c3,mm⟩) (hp:PatsN w7 P HA3 hc3 hs) :
  RedAt w4 (((w7.setCell ⟨b,0,none⟩ (.slice A3 n3 c3)).setCell ⟨b,1,none⟩ (.bool re3)).setCell ⟨b,2,none⟩ (.slice HA3 m3 hc3)) b A3 n3 c3 re3 HA3 m3 hc3 B ⟨mm,hs⟩:=by
 have hcal:=calm3 (o:=0) hcy h4 (.slice A3 n3 c3) (.bool re3) (.slice HA3 m3 hc3)
 have hp2:=((hp.set (p:=⟨b,0,none⟩) (.slice A3 n3 c3) hb).set (p:=⟨b,1,none⟩) (.bool re3) hb).set (p:=⟨b,2,none⟩) (.slice HA3 m3 hc3) hb
 refine⟨hcal,by simpa using hz.z.lt,?_,?_,?_,⟨hm.calm hcal,hp2.mono hP⟩⟩
 ·rw[World.cell?_setCell_other _ _ _ _ (by simp),World.cell?_setCell_other _ _ _ _ (by simp)]
  exact World.cell?_setCell_same' _ _ _ (by rw[hz.z.z0];rfl)
 ·rw[World.cell?_setCell_other _ _ _ _ (by simp)]
  exact World.cell?_setCell_same' _ _ _ (by rw[World.cell?_setCell_other _ _ _ _ (by simp),hz.z.z1];rfl)
 ·exact World.cell?_setCell_same' _ _ _ (by rw[World.cell?_setCell_other _ _ _ _ (by simp),World.cell?_setCell_other _ _ _ _ (by simp),hz.z.z2];rfl)
theorem redB_new {w4 w7:World} {B P:Nat} {A3:Option Addr} {n3 c3:Nat} {re3:Bool} {HA3:Option Addr} {m3 hc3:Nat} {mm:Pat} {hs:List Pat} (hcy:Calm w4 w7) (hP:B≤P) (hm:SmallN w4 B ⟨A3,c3,mm⟩) (hp:PatsN w7 P HA3 hc3 hs) :
  RedAt w4 (w7.alloc (.cells #[.slice A3 n3 c3,.bool re3,.slice HA3 m3 hc3] 67)) w7.heap.size A3 n3 c3 re3 HA3 m3 hc3 B ⟨mm,hs⟩:=by
 have hcA:Calm w7 (w7.alloc (.cells #[.slice A3 n3 c3,.bool re3,.slice HA3 m3 hc3] 67)):=(Calm.refl w7).alloc _
 exact⟨hcy.trans hcA,by simp[go_sem],by simp[go_sem],by simp[go_sem],by simp[go_sem],⟨hm.calm (hcy.trans hcA),(hp.calm hcA).mono hP⟩⟩
theorem rlenG_v (g:Reg) (v:Nat) (n m:Nat) (re:Bool) (A:Option Addr) (c:Nat) (HA:Option Addr) (hc:Nat) (w:World) (h:RegA w A c HA g.b g.hs) (hg:patErr g.b=0) (hgs:∀p∈g.hs,patErr p=0) (hv:gLen g=v) (hn:g.b.parts.length=n) (hm:g.hs.length=m) (hre:g.b.rest=re) :
  Calls Tryz.prog 61 #[.agg #[.slice A n c,.bool re,.slice HA m hc]] w fun e w'=>e=.returned (.int .i64 v)∧Calm w w':=by
 have:=rlen_c g.b g.hs A c HA hc w h.base h.holes (allOk_of hg) (fun p hp=>allOk_of (hgs p hp))
 unfold gLen at hv
 subst hv hn hm hre
 exact this
theorem regN_zero (w:World) (B:Nat):RegN w B none 0 none 0 zeroReg:=⟨⟨NewS.nil _ _,Nat.zero_le _,fun l hl=>by cases hl⟩,⟨⟨[],rfl,.inl ⟨rfl,rfl⟩,fun x hx=>by cases hx⟩,Nat.le_refl _,by decide⟩⟩
def MeetVEnd (G:Reg) (gn gm:Nat) (gr ok:Bool) (er:Int) (B:Nat) (e:Ending) (w':World):Prop:=∃A3 c3 HA3 hc3,e=.returned (.tuple #[.agg #[.slice A3 gn c3,.bool gr,.slice HA3 gm hc3],.bool ok,.int .i64 er])∧RegN w' B A3 c3 HA3 hc3 G
set_option maxRecDepth 100000 in
set_option maxHeartbeats 16000000 in
theorem rgmeet_c (x y G:Reg) (ok:Bool) (er:Int) (gn gm:Nat) (gr:Bool) (n m n' m':Nat) (re re':Bool) (A:Option Addr) (c:Nat) (HA:Option Addr) (hc:Nat) (A':Option Addr) (c':Nat) (HA':Option Addr) (hc':Nat) (w:World) (h:RegA w A c HA x.b x.hs) (h':RegA w A' c' HA' y.b y.hs)
  (hn:x.b.parts.length=n) (hm:x.hs.length=m) (hre:x.b.rest=re) (hn':y.b.parts.length=n') (hm':y.hs.length=m') (hre':y.b.rest=re') (hl:m+m'≤16384)
  (hG:(meetR x y).1.getD zeroReg=G) (hok:(meetR x y).1.isSome=ok) (her:(meetR x y).2=er) (hgn:G.b.parts.length=gn) (hgm:G.hs.length=gm) (hgr:G.b.rest=gr) :
  Calls Tryz.prog 62 #[.agg #[.slice A n c,.bool re,.slice HA m hc],.agg #[.slice A' n' c',.bool re',.slice HA' m' hc']] w fun e w'=>MeetVEnd G gn gm gr ok er w.heap.size e w'∧Calm w w':=by
 obtain⟨w1,hw1⟩:∃w1,w1=((w.alloc (.cells #[.slice A n c,.bool re,.slice HA m hc] 67)).alloc (.cells #[.slice A' n' c',.bool re',.slice HA' m' hc'] 67)).alloc (.cells #[.slice none 0 0,.bool false,.slice none 0 0] 67):=⟨_,rfl⟩
 have hc1:Calm w w1:=by rw[hw1];exact (((Calm.refl w).alloc _).alloc _).alloc _
 have hbox:Box2Z w1 w.heap.size A n c re HA m hc A' n' c' re' HA' m' hc':=by
  rw[hw1]
  exact⟨⟨by simp,by simp[go_sem],by simp[go_sem],by simp[go_sem],by simp[go_sem],by simp[go_sem],by simp[go_sem]⟩,by simp,by simp[go_sem],by simp[go_sem],by simp[go_sem],fun o=>by simp[go_sem]⟩
 obtain⟨v,hv⟩:∃v,gErr x=v:=⟨_,rfl⟩
 obtain⟨v',hv'⟩:∃v,gErr y=v:=⟨_,rfl⟩
 have rgc:∀(g:Reg) (v:Int) (n m:Nat) (re:Bool) (A:Option Addr) (c:Nat) (HA:Option Addr) (hc:Nat) (W:World),RegA W A c HA g.b g.hs→gErr g=v→g.b.parts.length=n→g.hs.length=m→g.b.rest=re→Calls Tryz.prog 101 #[.agg #[.slice A n c,.bool re,.slice HA m hc]] W fun e w'=>e=.returned (.int .i64 v)∧Calm W w':=fun g v n m re A c HA hc W h hv hn hm hre=>by
  have:=rgcheck_c g.b g.hs A c HA hc W h.base h.room h.cap h.holes
  unfold gErr at hv
  rw[hv,hn,hm,hre] at this
  exact this
 have K0:=rgc x v n m re A c HA hc w1 (h.calm hc1) hv hn hm hre
 have K1:=Lib.hid (fun (W:World) (hW:Calm w1 W)=>rgc y v' n' m' re' A' c' HA' hc' W ((h'.calm hc1).calm hW) hv' hn' hm' hre')
 have HX:=Lib.hid (h.calm hc1)
 have HY:=Lib.hid (h'.calm hc1)
 have HN:=Lib.hid (And.intro hn (And.intro hm hre))
 have HN':=Lib.hid (And.intro hn' (And.intro hm' hre'))
 have HW:=Lib.hid hw1
 have HC:=Lib.hid hc1
 have HB:=Lib.hid hbox
 have HV:=Lib.hid (And.intro hv hv')
 have HGd:=Lib.hid (And.intro hG (And.intro hok her))
 have HGl:=Lib.hid (And.intro hgn (And.intro hgm hgr))
 clear hw1 hc1 hbox h h' hn hm hre hn' hm' hre' hv hv' hG hok her hgn hgm hgr rgc
 have hzero:Hid ((meetR x y).1=none→ok=false∧gn=0∧gr=false∧gm=0∧G=zeroReg):=fun e=>by
  have h1:=HGd.out.1
  have h2:=HGd.out.2.1
  rw[e] at h1 h2
  obtain rfl:zeroReg=G:=h1
  exact⟨h2.symm,HGl.out.1.symm,HGl.out.2.2.symm,HGl.out.2.1.symm,rfl⟩
 by_cases h0:v=0
 ·subst h0
  by_cases h1:v'=0
  ·subst h1
   obtain⟨gx1,gx2,_⟩:=gErr_zero HV.out.1
   obtain⟨gy1,gy2,_⟩:=gErr_zero HV.out.2
   have hb0:¬bothErr x y≠0:=by simpa using bothErr_of HV.out.1 HV.out.2
   rcases hmt:meetP x.b y.b with _ | mm
   ·have hE:(meetR x y).1=none∧(meetR x y).2=0:=by
     unfold meetR
     rw[if_neg hb0,hmt]
     exact⟨rfl,rfl⟩
    obtain⟨rfl,rfl,rfl,rfl,rfl⟩:=hzero.out hE.1
    obtain rfl:er=0:=HGd.out.2.2.symm.trans hE.2
    have KM:Hid (∀W,Calm w1 W→Calls Tryz.prog 97 #[.agg #[.slice A n c,.bool re],.agg #[.slice A' n' c',.bool re']] W fun e w'=>e=.returned (.tuple #[.agg #[.slice none 0 0,.bool false],.bool false])∧Calm W w'):=fun W hW=>by
     have hx:=HX.out.calm hW
     have hy:=HY.out.calm hW
     have:=rmeet_no x.b y.b A A' c c' W ⟨hx.base,hx.room,hx.cap⟩ ⟨hy.base,hy.room,hy.cap⟩ gx1 gy1 hmt
     rw[HN.out.1,HN.out.2.2,HN'.out.1,HN'.out.2.2] at this
     exact this
    clear gx1 gx2 gy1 gy2 hmt hE hb0
    go_enter Tryz.func62,Tryz.ntmps62
    go_wp2_with fail
    rw[←HW.out]
    refine K0.mono ?_
    rintro e w2 ⟨rfl,hc2⟩
    have b2:=HB.out.calm hc2
    have y0:=b2.two.y0
    have y1:=b2.two.y1
    have y2:=b2.two.y2
    clear b2
    go_wp2_with fail
    refine (K1.out w2 hc2).mono ?_
    rintro e w2' ⟨rfl,hc2'⟩
    clear y0 y1 y2
    have b2:=HB.out.calm (hc2.trans hc2')
    have x0:=b2.two.x0
    have x1:=b2.two.x1
    have y0:=b2.two.y0
    have y1:=b2.two.y1
    clear b2
    go_wp2_with fail
    refine (KM.out w2' (hc2.trans hc2')).mono ?_
    rintro e w3 ⟨rfl,hc3⟩
    have HC4:=Lib.hid (HC.out.trans ((hc2.trans hc2').trans (hc3.trans ((Calm.refl w3).alloc (.cells #[.slice none 0 0,.bool false] 51)))))
    have b4:=HB.out.calm ((hc2.trans hc2').trans (hc3.trans ((Calm.refl w3).alloc (.cells #[.slice none 0 0,.bool false] 51))))
    have z0:=b4.z0
    have z1:=b4.z1
    have z2:=b4.z2
    have f0:=b4.fz 0
    have f1:=b4.fz 1
    have f2:=b4.fz 2
    clear hc2 hc2' hc3 b4 KM K0 K1 x0 x1 y0 y1
    go_wp2
    refine bodyPost_ret (v:=.tuple #[.agg #[.slice none 0 0,.bool false,.slice none 0 0],.bool false,.int .i64 0]) ?_ rfl ⟨⟨none,0,none,0,rfl,regN_zero _ _⟩,calm3 (o:=0) HC4.out (by omega) _ _ _⟩
    rw[results_cell_tmps rfl]
    go_simp
   ·obtain⟨N,hN⟩:∃N,(x.hs++y.hs).length=N:=⟨_,rfl⟩
    have hN2:N≤16384:=by rw[←hN,List.length_append,HN.out.2.1,HN'.out.2.1];exact hl
    obtain⟨g,hg⟩:∃g,meetG mm x y=g:=⟨_,rfl⟩
    obtain⟨tn,htn⟩:∃gn,mm.parts.length=gn:=⟨_,rfl⟩
    obtain⟨tr,htr⟩:∃gr,mm.rest=gr:=⟨_,rfl⟩
    obtain⟨tm,htm⟩:∃gm,(redL mm (x.hs++y.hs)).length=gm:=⟨_,rfl⟩
    have htmN:tm≤N:=by rw[←htm,←hN];exact redL_len _ _
    obtain⟨lx,hlx,hXl⟩:=HX.out.holes.places
    obtain⟨ly,hly,hYl⟩:=HY.out.holes.places
    have hlxn:lx.length=m:=by rw[←HN.out.2.1,←hlx,List.length_map]
    have hlyn:ly.length=m':=by rw[←HN'.out.2.1,←hly,List.length_map]
    have hgl:=meetG_good hmt (x:=x) (y:=y)
    rw[hg] at hgl
    have hgf:g.b=mm∧g.hs=redL mm (x.hs++y.hs):=by rw[←hg];exact⟨rfl,rfl⟩
    have KM:Hid (∀W,Calm w1 W→Calls Tryz.prog 97 #[.agg #[.slice A n c,.bool re],.agg #[.slice A' n' c',.bool re']] W fun e w'=>(∃A2 c2,e=.returned (.tuple #[.agg #[.slice A2 tn c2,.bool tr],.bool true])∧SmallN w' W.heap.size ⟨A2,c2,mm⟩)∧Calm W w'):=fun W hW=>by
     have hx:=HX.out.calm hW
     have hy:=HY.out.calm hW
     have:=rmeet_yes x.b y.b mm A A' c c' W ⟨hx.base,hx.room,hx.cap⟩ ⟨hy.base,hy.room,hy.cap⟩ gx1 gy1 hmt
     rw[HN.out.1,HN.out.2.2,HN'.out.1,HN'.out.2.2,htn,htr] at this
     exact this
    have HGo:Hid (∀A2 c2 AC cC W,PatA W A2 c2 mm→PatsR W AC (x.hs++y.hs)→Calls Tryz.prog 59 #[.agg #[.slice A2 tn c2,.bool tr],.slice AC N cC] W fun e w'=>(∃HA3 hc3,e=.returned (.agg #[.slice A2 tn c2,.bool tr,.slice HA3 tm hc3])∧PatsN w' W.heap.size HA3 hc3 (redL mm (x.hs++y.hs)))∧Calm W w'):=fun A2 c2 AC cC W h1 h2=>by
     have:=rsimp_c mm (x.hs++y.hs) A2 c2 AC N cC W h1 h2 hN (meetP_some hmt).2.2.2 (fun p hp=>(List.mem_append.1 hp).elim (gx2 p) (gy2 p))
     unfold RSEnd at this
     rw[htn,htr,htm] at this
     exact this
    have hlen:g.b.parts.length=tn∧g.b.rest=tr∧g.hs.length=tm:=by rw[hgf.1,hgf.2];exact⟨htn,htr,htm⟩
    have hE1:Hid (64 < tm→(meetR x y).1=none∧(meetR x y).2=52):=fun hlt=>by
     have h2:64 < (meetG mm x y).hs.length:=by rw[hg,hlen.2.2];exact hlt
     unfold meetR
     rw[if_neg hb0,hmt]
     simp only
     rw[if_pos h2]
     exact⟨rfl,rfl⟩
    have hE2:Hid (¬64 < tm→gLen g=0→(meetR x y).1=none∧(meetR x y).2=0):=fun hlt hz=>by
     have h2:¬64 < (meetG mm x y).hs.length:=by rw[hg,hlen.2.2];exact hlt
     unfold meetR
     rw[if_neg hb0,hmt]
     simp only
     rw[if_neg h2,hg,if_pos hz]
     exact⟨rfl,rfl⟩
    have hE3:Hid (¬64 < tm→gLen g≠0→(meetR x y).1=some g∧(meetR x y).2=0):=fun hlt hz=>by
     have h2:¬64 < (meetG mm x y).hs.length:=by rw[hg,hlen.2.2];exact hlt
     unfold meetR
     rw[if_neg hb0,hmt]
     simp only
     rw[if_neg h2,hg,if_neg hz]
     exact⟨rfl,rfl⟩
    have HGg:=Lib.hid (And.intro hgl (And.intro hgf hlen))
    have HLx:=Lib.hid (And.intro hlxn (And.intro hlx hXl))
    have HLy:=Lib.hid (And.intro hlyn (And.intro hly hYl))
    have HNn:=Lib.hid hN
    have HTm:=Lib.hid htm
    have HNe:Hid (m+m'=N):=by
     show m+m'=N
     rw[←hN,List.length_append,HN.out.2.1,HN'.out.2.1]
    have HJoin:Hid (∀W0 W A n c,Calm w1 W0→OwnX encP 2 51 W0 W (.slice A n c) (lx++ly)→PatsR W A (x.hs++y.hs)):=fun W0 W A n c h0 hown=>by
     have:=own_reads hown (fun z hz=>by
      rcases List.mem_append.1 hz with h | h
      ·exact (hXl.each z h).calm (h0.trans hown.calm)
      ·exact (hYl.each z h).calm (h0.trans hown.calm)) (by rw[List.length_append,hlxn,hlyn];exact hl)
     rw[List.map_append,hlx,hly] at this
     exact this
    clear gx1 gx2 gy1 gy2 hmt hg htn htr htm hN hlx hly hXl hYl hlxn hlyn hgl hgf hlen hb0
    go_enter Tryz.func62,Tryz.ntmps62
    go_wp2_with fail
    rw[←HW.out]
    refine K0.mono ?_
    rintro e w2 ⟨rfl,hc2⟩
    have b2:=HB.out.calm hc2
    have y0:=b2.two.y0
    have y1:=b2.two.y1
    have y2:=b2.two.y2
    clear b2
    go_wp2_with fail
    refine (K1.out w2 hc2).mono ?_
    rintro e w2' ⟨rfl,hc2'⟩
    clear y0 y1 y2
    have b2:=HB.out.calm (hc2.trans hc2')
    have x0:=b2.two.x0
    have x1:=b2.two.x1
    have y0:=b2.two.y0
    have y1:=b2.two.y1
    clear b2
    go_wp2_with fail
    refine (KM.out w2' (hc2.trans hc2')).mono ?_
    rintro e w3 ⟨⟨A2,c2,rfl,hs3⟩,hc3⟩
    clear x0 x1 y0 y1
    go_upto_region 10 with (fail)
    obtain⟨w4,hw4⟩:∃w4,w4=w3.alloc (.cells #[.slice A2 tn c2,.bool tr] 51):=⟨_,rfl⟩
    rw[←hw4]
    have hc4:Calm w3 w4:=by rw[hw4];exact (Calm.refl w3).alloc _
    have t0:w4.cell? ⟨w3.heap.size,0,none⟩=some (.slice A2 tn c2):=by rw[hw4];simp[go_sem]
    have t1:w4.cell? ⟨w3.heap.size,1,none⟩=some (.bool tr):=by rw[hw4];simp[go_sem]
    have tlt:w3.heap.size < w4.heap.size:=by rw[hw4];simp[go_sem]
    have HC4:=Lib.hid ((hc2.trans hc2').trans (hc3.trans hc4))
    have HS4:Hid (SmallN w4 (w.heap.size+3) ⟨A2,c2,mm⟩):=(hs3.calm hc4).mono (HB.out.calm (hc2.trans hc2')).size
    have hBx:=HB.out.calm HC4.out
    have HSX:Hid (∀W,Calm w4 W→W.cell? ⟨w3.heap.size,0,none⟩=some (.slice A2 tn c2)∧W.cell? ⟨w3.heap.size,1,none⟩=some (.bool tr)∧W.cell? ⟨w.heap.size,2,none⟩=some (.slice HA m hc)∧W.cell? ⟨w.heap.size+1,2,none⟩=some (.slice HA' m' hc')):=fun W hW=>
     ⟨Calm.at_ hW t0 tlt,Calm.at_ hW t1 tlt,Calm.at_ hW hBx.two.x2 (by have:=hBx.size;omega),Calm.at_ hW hBx.two.y2 (by have:=hBx.size;omega)⟩
    clear hw4 hc2 hc2' hc3 hc4 hs3 t0 t1 tlt hBx KM K0 K1
    go_cut [11] (fun s wx=>∃B10 HA3 hc3,s=.pointer (some ⟨B10,0,none⟩)∧Hid (RedAt w4 wx B10 A2 tn c2 tr HA3 tm hc3 (w.heap.size+3) g))
    case first=>
     go_region_held3 (fun W=>W.cell? ⟨w3.heap.size,0,none⟩=some (.slice A2 tn c2)∧W.cell? ⟨w3.heap.size,1,none⟩=some (.bool tr)∧W.cell? ⟨w.heap.size,2,none⟩=some (.slice HA m hc)∧W.cell? ⟨w.heap.size+1,2,none⟩=some (.slice HA' m' hc'))
      (first
       |exact HSX.out _ (Below.drew (Calm.refl _))
       |exact HSX.out _ (Below.drew ((Calm.refl _).alloc _))
       |exact HSX.out _ hcz
       |exact HSX.out _ (hcz.alloc _)
       |exact HSX.out _ (calm3 (o:=0) hcz hcy.size _ _ _)
       |exact HSX.out _ (calm3 (o:=0) hcz hcx.size _ _ _)
       |exact HSX.out _ (calm3 (o:=0) hcz (Nat.le_refl _) _ _ _)
       |exact HSX.out _ hcy
       |exact HSX.out _ (hcy.alloc _)
       |exact HSX.out _ hcx
       |exact HSX.out _ (hcx.alloc _)
       |go_keep)
      (first
       |(refine step_append_ps rfl _ (.tmp 37) rfl w4 (.slice none 0 0) [] lx (by simp[Act.eval,Act.put]) (OwnX.nil (by first | exact Below.drew (Calm.refl _) | exact Below.drew ((Calm.refl _).alloc _))) HA m hc (by simp[Act.eval,Act.put]) HLx.out.1 (HLx.out.2.2.read.calm (HC4.out.trans (by first | exact Below.drew (Calm.refl _) | exact Below.drew ((Calm.refl _).alloc _)))) (by simp;omega) ?_;intro v6 w6 hown6 hgr6;rw[List.nil_append] at hown6;obtain⟨A6,c6,hv6⟩:=hown6.len_shape;rw[HLx.out.1] at hv6;subst hv6;have hcx:Calm w4 w6:=hown6.calm;(first | have hZ6:ZeroK w6 w4.heap.size:=(zk_newd w4).own (OwnX.nil (enc:=encP) (K:=2) (T:=51) (Below.drew ((Calm.refl w4).alloc _))).own hgr6 | skip))
       |(refine step_append_ps rfl (.tmp 38) (.tmp 40) rfl w4 (.slice A6 m c6) lx ly (by simp[Act.eval,Act.put]) (hown6.to (by first | exact Calm.refl _ | exact (Calm.refl _).alloc _)) HA' m' hc' (by simp[Act.eval,Act.put]) HLy.out.1 (HLy.out.2.2.read.calm (HC4.out.trans (hcx.trans (by first | exact Calm.refl _ | exact (Calm.refl _).alloc _)))) (by rw[HLx.out.1];omega) ?_;intro v8 w8 hown8 hgr8;obtain⟨A8,c8,hv8⟩:=hown8.len_shape;rw[List.length_append,HLx.out.1,HLy.out.1,HNe.out] at hv8;subst hv8;have hcy:Calm w4 w8:=hown8.calm;have hP8:=HJoin.out w4 w8 _ _ _ HC4.out hown8;(first | have hZ8:ZeroK w8 w6.heap.size:=(zk_new w6).own (hown6.to ((Calm.refl w6).alloc _)).own hgr8 | have hZ8:ZeroK w8 w4.heap.size:=hZ6.own hown6.own hgr8 | skip))
       |(go_at_call 59;refine (HGo.out A2 c2 A8 c8 _ (HS4.out.a.calm (hcy.trans (by first | exact Calm.refl _ | exact (Calm.refl _).alloc _))) (hP8.calm (by first | exact Calm.refl _ | exact (Calm.refl _).alloc _))).mono ?_;rintro e w9 ⟨⟨HA9,hc9',rfl,hp9⟩,hc9⟩;(first | have hZ9:ZeroK w9 w8.heap.size:=(zk_new w8).calm hc9 | have hZ9:ZeroK w9 w6.heap.size:=hZ8.calm hc9 | have hZ9:ZeroK w9 w4.heap.size:=hZ8.calm hc9 | skip);have hcz:Calm w4 w9:=hcy.trans (Calm.trans (by first | exact Calm.refl _ | exact (Calm.refl _).alloc _) hc9);try (have z0:=hZ9.z.z0;have z1:=hZ9.z.z1;have z2:=hZ9.z.z2;have f0:=hZ9.z.f0;have f1:=hZ9.z.f1;have f2:=hZ9.z.f2)))
     all_goals
      have hsz6:=hcx.size
      have hsz8:=hcy.size
      have hsz9:=hc9.size
      have hg86:=hgr8.size
      have hsb:=HS4.out
      have hsz4:w.heap.size+3≤w4.heap.size:=(HB.out.calm HC4.out).size
      have hR:(⟨mm,redL mm (x.hs++y.hs)⟩:Reg)=g:=by
       obtain⟨gb,ghs⟩:=g
       obtain⟨e1,e2⟩:=HGg.out.2.1
       simp only at e1 e2
       rw[e1,e2]
      go_wp2_with fail
      go_meet
      case rel=>
       first
        |exact⟨_,_,_,rfl,hR ▸ redB_new hcz (by omega) hsb hp9⟩
        |exact⟨_,_,_,rfl,hR ▸ redB_set hZ9 hcz (by omega) (by simp[go_sem]) (by simp[go_sem];omega) hsb hp9⟩
        |exact⟨_,_,_,rfl,hR ▸ redB_set hZ9 hcz (by omega) hZ8.z.lt (by omega) hsb hp9⟩
    case rest=>
     obtain⟨B10,HA3,hc3,rfl,HR⟩:=hcut
     have c0:=HR.out.c0
     have c1:=HR.out.c1
     have c2':=HR.out.c2
     have hlt:=HR.out.lt
     have hbz:=HB.out.calm (HC4.out.trans HR.out.calm)
     have z0:=hbz.z0
     have z1:=hbz.z1
     have z2:=hbz.z2
     have f0:=hbz.fz 0
     have f1:=hbz.fz 1
     have f2:=hbz.fz 2
     have HCr:=Lib.hid (HC.out.trans (HC4.out.trans HR.out.calm))
     have HBz:=Lib.hid hbz
     clear hbz
     by_cases h64:64 < tm
     ·have hE:=hE1.out h64
      obtain⟨rfl,rfl,rfl,rfl,rfl⟩:=hzero.out hE.1
      obtain rfl:er=52:=HGd.out.2.2.symm.trans hE.2
      clear hE
      go_wp2
      refine bodyPost_ret (v:=.tuple #[.agg #[.slice none 0 0,.bool false,.slice none 0 0],.bool false,.int .i64 52]) ?_ rfl ⟨⟨none,0,none,0,rfl,regN_zero _ _⟩,calm3 (o:=0) HCr.out (by omega) _ _ _⟩
      rw[results_cell_tmps rfl]
      go_simp
     ·obtain⟨vl,hvl⟩:∃vl,gLen g=vl:=⟨_,rfl⟩
      have htm16:g.hs.length≤16384:=by rw[HGg.out.2.2.2.2];omega
      have KV:Hid (∀W,Calm wc W→Calls Tryz.prog 61 #[.agg #[.slice A2 tn c2,.bool tr,.slice HA3 tm hc3]] W fun e w'=>e=.returned (.int .i64 vl)∧Calm W w'):=fun W hW=>by
       obtain⟨e1,e2⟩:=HGg.out.2.1
       have:=rlenG_v g vl tn tm tr A2 c2 HA3 hc3 W ((HR.out.reg.calm hW).a htm16) (by rw[e1];exact HGg.out.1.1) HGg.out.1.2 hvl HGg.out.2.2.1 HGg.out.2.2.2.2 HGg.out.2.2.2.1
       exact this
      by_cases hvz:vl=0
      ·have hE:=hE2.out h64 (hvl.trans hvz)
       obtain⟨rfl,rfl,rfl,rfl,rfl⟩:=hzero.out hE.1
       obtain rfl:er=0:=HGd.out.2.2.symm.trans hE.2
       subst hvz
       clear hE hvl z0 z1 z2 f0 f1 f2
       go_wp2_with fail
       refine (KV.out wc (Calm.refl _)).mono ?_
       rintro e w9 ⟨rfl,hc9⟩
       have hb9:=HBz.out.calm hc9
       have z0:=hb9.z0
       have z1:=hb9.z1
       have z2:=hb9.z2
       have f0:=hb9.fz 0
       have f1:=hb9.fz 1
       have f2:=hb9.fz 2
       clear hb9
       go_wp2
       refine bodyPost_ret (v:=.tuple #[.agg #[.slice none 0 0,.bool false,.slice none 0 0],.bool false,.int .i64 0]) ?_ rfl ⟨⟨none,0,none,0,rfl,regN_zero _ _⟩,calm3 (o:=0) (HCr.out.trans hc9) (by omega) _ _ _⟩
       rw[results_cell_tmps rfl]
       go_simp
      ·have hE:=hE3.out h64 (by rw[hvl];exact hvz)
       have hGg:g=G:=by
        have:=HGd.out.1
        rw[hE.1] at this
        exact this
       obtain rfl:true=ok:=by
        have:=HGd.out.2.1
        rw[hE.1] at this
        exact this
       obtain rfl:er=0:=HGd.out.2.2.symm.trans hE.2
       subst hGg
       obtain rfl:tn=gn:=HGg.out.2.2.1.symm.trans HGl.out.1
       obtain rfl:tr=gr:=HGg.out.2.2.2.1.symm.trans HGl.out.2.2
       obtain rfl:tm=gm:=HGg.out.2.2.2.2.symm.trans HGl.out.2.1
       have hvb:((vl:Int) == 0)=false:=by simp;omega
       have HVz:=Lib.hid hvz
       clear hE hvl z0 z1 z2 f0 f1 f2 hvz
       go_wp2_with fail
       refine (KV.out wc (Calm.refl _)).mono ?_
       rintro e w9 ⟨rfl,hc9⟩
       have hb9:=HBz.out.calm hc9
       have z0:=hb9.z0
       have z1:=hb9.z1
       have z2:=hb9.z2
       have f0:=hb9.fz 0
       have f1:=hb9.fz 1
       have f2:=hb9.fz 2
       clear c0 c1 c2'
       have hr9:=HR.out.to hc9
       have c0:=hr9.c0
       have c1:=hr9.c1
       have c2':=hr9.c2
       have HCz:=Lib.hid (HCr.out.trans hc9)
       have HRz:=Lib.hid hr9.reg
       clear hb9 hr9 hc9
       go_wp2
       refine bodyPost_ret (v:=.tuple #[.agg #[.slice A2 tn c2,.bool tr,.slice HA3 tm hc3],.bool true,.int .i64 0]) ?_ rfl ⟨⟨A2,c2,HA3,hc3,rfl,?_⟩,calm3 (o:=0) HCz.out (by omega) _ _ _⟩
       ·rw[results_cell_tmps rfl]
        go_simp
       ·exact ((((HRz.out.set (p:=⟨w.heap.size+2,0,none⟩) _ (Nat.lt_succ_self _)).set (p:=⟨w.heap.size+2,1,none⟩) _ (Nat.lt_succ_self _)).set (p:=⟨w.heap.size+2,2,none⟩) _ (Nat.lt_succ_self _))).mono (by omega)
  ·have hb:(v' == 0)=false:=by simpa using h1
   have hE:(meetR x y).1=none∧(meetR x y).2=v':=by
    have:bothErr x y=v':=by rw[bothErr,if_pos HV.out.1];exact HV.out.2
    unfold meetR
    rw[this,if_pos h1]
    exact⟨rfl,rfl⟩
   obtain⟨rfl,rfl,rfl,rfl,rfl⟩:=hzero.out hE.1
   obtain rfl:er=v':=HGd.out.2.2.symm.trans hE.2
   clear h1 hE
   go_enter Tryz.func62,Tryz.ntmps62
   go_wp2_with fail
   rw[←HW.out]
   refine K0.mono ?_
   rintro e w2 ⟨rfl,hc2⟩
   have b2:=HB.out.calm hc2
   have y0:=b2.two.y0
   have y1:=b2.two.y1
   have y2:=b2.two.y2
   clear b2
   go_wp2_with fail
   refine (K1.out w2 hc2).mono ?_
   rintro e w3 ⟨rfl,hc3⟩
   have b2:=HB.out.calm (hc2.trans hc3)
   have z0:=b2.z0
   have z1:=b2.z1
   have z2:=b2.z2
   have f0:=b2.fz 0
   have f1:=b2.fz 1
   have f2:=b2.fz 2
   have HC4:=Lib.hid (HC.out.trans (hc2.trans hc3))
   clear b2 hc2 hc3 K0 K1 y0 y1 y2
   go_wp2
   refine bodyPost_ret (v:=.tuple #[.agg #[.slice none 0 0,.bool false,.slice none 0 0],.bool false,.int .i64 er]) ?_ rfl ⟨⟨none,0,none,0,rfl,regN_zero _ _⟩,calm3 (o:=0) HC4.out (by omega) _ _ _⟩
   rw[results_cell_tmps rfl]
   go_simp
 ·have hb:(v == 0)=false:=by simpa using h0
  have hE:(meetR x y).1=none∧(meetR x y).2=v:=by
   have:bothErr x y=v:=by rw[bothErr,HV.out.1,if_neg h0]
   unfold meetR
   rw[this,if_pos h0]
   exact⟨rfl,rfl⟩
  obtain⟨rfl,rfl,rfl,rfl,rfl⟩:=hzero.out hE.1
  obtain rfl:er=v:=HGd.out.2.2.symm.trans hE.2
  clear h0 hE
  go_enter Tryz.func62,Tryz.ntmps62
  go_wp2_with fail
  rw[←HW.out]
  refine K0.mono ?_
  rintro e w2 ⟨rfl,hc2⟩
  have b2:=HB.out.calm hc2
  have z0:=b2.z0
  have z1:=b2.z1
  have z2:=b2.z2
  have f0:=b2.fz 0
  have f1:=b2.fz 1
  have f2:=b2.fz 2
  have HC4:=Lib.hid (HC.out.trans hc2)
  clear b2 hc2 K0 K1
  go_wp2
  refine bodyPost_ret (v:=.tuple #[.agg #[.slice none 0 0,.bool false,.slice none 0 0],.bool false,.int .i64 er]) ?_ rfl ⟨⟨none,0,none,0,rfl,regN_zero _ _⟩,calm3 (o:=0) HC4.out (by omega) _ _ _⟩
  rw[results_cell_tmps rfl]
  go_simp
end Go.Proofs.YtdcdabbepnahnaaGreatDoor
