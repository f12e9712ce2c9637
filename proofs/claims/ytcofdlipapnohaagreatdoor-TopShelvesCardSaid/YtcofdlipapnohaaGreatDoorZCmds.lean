/- What the commands do, through (*Server).Do. -/
import Derived.Deep.RegionHeld3
import Derived.Test.YtcofdlipapnohaaGreatDoorZInsC
import Derived.Test.YtcofdlipapnohaaGreatDoorZDoNw
import Derived.Test.YtcofdlipapnohaaGreatDoorZDoPt
import Derived.Test.YtcofdlipapnohaaGreatDoorZDoDo
import Derived.Test.YtcofdlipapnohaaGreatDoorZSrvA
import Derived.Test.YtcofdlipapnohaaGreatDoorZSrvN
import Derived.Test.YtcofdlipapnohaaGreatDoorZDoSt
import Derived.Test.YtcofdlipapnohaaGreatDoorZDoSb
set_option linter.unusedVariables false
set_option linter.unusedSimpArgs false
namespace Go.Proofs.YtcofdlipapnohaaGreatDoor
open Go Go.RowKit Sy
variable {w w':World} {x:Srv}
theorem SrvAt.addCl (h:SrvAt w x) {w1:World} {A:Option Addr} {c:Nat} (nm:Str) (hg:w.grownBy w1 (blk x.CA)) (hown:w1.ownsRow 0 94 3 (.slice A (x.cs.length+1) c) (x.cs.length+1) (encs encCl (x.cs++[nm])))
  (hA:blk A=blk x.CA∨∃i,blk A=some i∧w.heap.size≤i) :
  Went w x (w1.setCell ⟨x.S,3,none⟩ (.slice A (x.cs.length+1) c)) { x with CA:=A,cc:=c,cs:=x.cs++[nm] }:=by
 have k1:Kp x.F w w1:=Kp.grown hg (fun i hi=>.inl (.inr (.inr (.inr (.inl hi)))))
 have k0:Kp (fun i=>blk x.CA=some i) w w1:=Kp.grown hg (fun i hi=>.inl hi)
 have kS:Kp (fun i=>i=x.S) w1 (w1.setCell ⟨x.S,3,none⟩ (.slice A (x.cs.length+1) c)):=kp_set w1 _ _ _ rfl
 have hAo:∀i,blk A=some i→i≠x.S∧i≠x.T∧i≠x.M∧blk x.PA≠some i:=fun i hi=>by
  rcases hA with hA | ⟨j,hj,hge⟩
  ·rw[hA] at hi
   exact h.fc i hi
  ·rw[hj] at hi
   obtain rfl:=Option.some.inj hi
   have h1:=h.z.lt
   have h2:=h.t.lt
   have h3:=h.m.lt
   exact⟨by omega,by omega,by omega,fun e=>by have:=h.lt j (.inr (.inr (.inr (.inr e))));omega⟩
 have hz:=(h.z.kp k0 (h.caOff (.inl rfl))).setc 3 (.slice A (x.cs.length+1) c) (by simp[Srv.vs])
 have hlen:(x.cs++[nm]).length=x.cs.length+1:=by simp
 refine Went.make h (k1.trans (kS.mono fun i hi=>.inl (.inl hi))) _ (fun i hi=>?_) ?_ ((h.t.kp k0 (h.caOff (.inr (.inl rfl)))).kp kS (fun e=>h.ne.1 e.symm)) ((h.m.kp k0 (h.caOff (.inr (.inr rfl)))).kp kS (fun e=>h.ne.2.1 e.symm)) h.ne
  (ownsRow_kp ?_ kS (fun b hb e=>?_)) (ownsRow_kp (ownsRow_kp h.pn k0 (fun b hb e=>?_)) kS (fun b hb e=>?_)) (fun i hi=>?_) (fun i hi=>?_) (.inl ⟨rfl,rfl⟩) (.inl ⟨rfl,rfl⟩) (.inl ⟨rfl,rfl⟩) (fun p hp=>.inl ⟨p,hp,rfl,rfl⟩)
 ·rcases hi with hi | hi | hi | hi | hi
  ·exact .inl (.inl hi)
  ·exact .inl (.inr (.inl hi))
  ·exact .inl (.inr (.inr (.inl hi)))
  ·rcases hA with hA | ⟨j,hj,hge⟩
   ·exact .inl (.inr (.inr (.inr (.inl (hA ▸ hi)))))
   ·have hi':blk A=some i:=hi
    rw[hj] at hi'
    obtain rfl:=Option.some.inj hi'
    exact .inr hge
  ·exact .inl (.inr (.inr (.inr (.inr hi))))
 ·show CellsB _ _ (Srv.vs { x with CA:=A,cc:=c,cs:=x.cs++[nm] })
  unfold Srv.vs
  rw[hlen]
  exact hz
 ·show w1.ownsRow 0 _ 3 (.slice A (x.cs++[nm]).length c) (x.cs++[nm]).length _
  rw[hlen]
  exact hown
 ·rw[own_blk] at hb
  exact (hAo b hb).1 e
 ·rw[own_blk] at hb
  exact (h.fc b e).2.2.2 hb
 ·rw[own_blk] at hb
  exact (h.fp b hb).1 e
 ·exact hAo i hi
 ·exact h.fp i hi
set_option maxRecDepth 100000 in
set_option maxHeartbeats 8000000 in
theorem insert_c (cs:List Str) (nm:Str) (CA:Option Addr) (cc n b:Nat) (w:World) (hown:w.ownsRow 0 94 3 (.slice CA n cc) n (encs encCl cs)) (hn:cs.length=n) (h1:n≤1) (hrd:ReadX encCl 3 w (some ⟨b,0,none⟩) [nm]) :
  Calls Tryz.prog 65 #[.slice CA n cc,.int .i64 (n:Int),.slice (some ⟨b,0,none⟩) 1 1] w fun e w'=>∃A c,e=.returned (.slice A (n+1) c)∧w'.ownsRow 0 94 3 (.slice A (n+1) c) (n+1) (encs encCl (cs++[nm]))∧w.grownBy w' (blk CA)∧(blk A=blk CA∨∃i,blk A=some i∧w.heap.size≤i):=by
 have hcc:n≤cc:=by
  rcases hown.2 with⟨h2,h3⟩ | ⟨g,cap,cur,hv,_,_,h4,_⟩
  ·omega
  ·injection hv with h5 h6 h7
   rw[h7]
   exact h4
 have hsp:n=cc∨cc≠n:=by omega
 have HO:Hid (OwnX encCl 3 94 (bare w) w (.slice CA n cc) cs):=⟨bare_calm w,by rw[hn];exact hown⟩
 have HR:=Lib.hid hrd
 have HN:=Lib.hid hn
 have hn1:(n:Int)≤(cc:Int):=by omega
 have hn0:(0:Int)≤(n:Int):=by omega
 have HL6:Hid ((cs++[nm]).length=n+1):=by show _=_;rw[List.length_append,hn];rfl
 clear hown hrd hn
 rcases hsp with rfl | hsp
 all_goals
  go_enter Tryz.func65,Tryz.ntmps65
  go_wp2_with (at_builtin;refine wpList_append_fr (enc:=encCl) (K:=3) (T:=94) Tryz.underlying47 infoK_Client rfl (by decide) (by decide) encCl_len encCl_one rfl (.tmp 23) (.tmp 24) rfl (bare w) (.slice CA n _) cs [nm] rfl HO.out (some ⟨b,0,none⟩) 1 1 rfl rfl HR.out (by have:=HN.out;omega) ?_;intro v6 w6 hown6 hgr6 hfr6;obtain⟨A6,c6,hv6⟩:=hown6.len_shape;rw[HL6.out] at hv6;subst hv6;have HO6:=Lib.hid hown6.own;have HG6:=Lib.hid (And.intro hgr6 hfr6);clear hown6 hgr6 hfr6)
  go_ret
  refine⟨A6,c6,rfl,?_,?_,?_⟩
  ·have:=HO6.out
   rw[HL6.out] at this
   exact this
  ·have:=HG6.out.1
   rw[own_blk] at this
   exact this
  ·rcases HG6.out.2 with h | ⟨i,h,hi⟩
   ·rw[own_blk,own_blk] at h
    exact .inl h
   ·rw[own_blk] at h
    exact .inr ⟨i,h,hi⟩
set_option maxRecDepth 100000 in
set_option maxHeartbeats 16000000 in
theorem doClient_c (x:Srv) (c:Cmd) (w:World) (h:SrvAt w x) (hss:x.ss=mainS) (hnm:c.nm=mainN) (hcl:nameS c.cl=true) (hc24:c.cl.length≤24) (hlen:x.cs.length≤1) (hbs:bsC x.cs c.cl=((x.cs.length:Int),false)) :
  Calls Tryz.prog 23 #[.pointer (some ⟨x.S,0,none⟩),cmV c] w fun e w'=>e=.returned (.tuple #[rep0,.int .i64 0])∧∃A cc,Went w x w' { x with CA:=A,cc:=cc,cs:=x.cs++[c.cl] }:=by
 have KC:Hid (∀W,Calm w W→Calls Tryz.prog 15 #[.pointer (some ⟨x.S,0,none⟩),.string (bs c.cl)] W fun e w'=>e=.returned (.tuple #[.int .i64 (x.cs.length:Int),.bool false])∧Calm W w'):=fun W hW=>by
  have:=client_c x c.cl W (h.calm hW) (by omega)
  rw[hbs] at this
  exact this
 have KV:Hid (∀W,Calm w W→Calls Tryz.prog 64 #[.slice x.SA 1 x.sc,.agg #[.string (bs c.cl),.string ⟨#[109,97,105,110]⟩,.slice none 0 0]] W fun e w'=>e=.returned (.int .i64 0)∧Calm W w'):=fun W hW=>by
  have hs:=(h.calm hW).str.now
  rw[hss] at hs
  exact viewable_c c.cl x.SA x.sc W hs hcl hc24
 have HG:Hid (∀W,Calm w W→W.cell? ⟨x.S,2,none⟩=some (.slice x.SA 1 x.sc)∧W.cell? ⟨x.S,3,none⟩=some (.slice x.CA x.cs.length x.cc)∧x.S < W.heap.size):=fun W hW=>by
  have h1:=(h.calm hW).z
  have z2:=h1.at_ 2 _ rfl
  rw[hss] at z2
  exact⟨z2,h1.at_ 3 _ rfl,h1.lt⟩
 have HCO:Hid (∀W,Calm w W→W.ownsRow 0 94 3 (.slice x.CA x.cs.length x.cc) x.cs.length (encs encCl x.cs)):=fun W hW=>(h.calm hW).cl
 have HSf:Hid (∀W U,Calm w W→W.grownBy U (blk x.CA)→U.cell? ⟨x.S,3,none⟩=some (.slice x.CA x.cs.length x.cc)∧U.frozen? ⟨x.S,3,none⟩=false∧x.S < U.heap.size):=fun W U hW hg=>by
  have h1:=(h.calm hW).z.grown hg (fun e=>h.caOff (.inl rfl) e.symm)
  exact⟨h1.at_ 3 _ rfl,h1.fz 3,h1.lt⟩
 have HB:=Lib.hid (CmBox.new w c)
 have hO:=(CmBox.new w c).off h
 have HO:=Lib.hid hO
 have HSv:=Lib.hid h
 have b1:=(CmBox.new w c).c.at_ 1 _ rfl
 have b2:=(CmBox.new w c).c.at_ 2 _ rfl
 have b11:=(CmBox.new w c).c.at_ 11 _ rfl
 have l3:=(CmBox.new w c).c.lt
 rw[hnm] at b2
 have b2':(cmBox w c).cell? ⟨w.heap.size,2,none⟩=some (.string ⟨#[109,97,105,110]⟩):=b2
 obtain⟨n,hn⟩:∃n,x.cs.length=n:=⟨_,rfl⟩
 rw[hn] at KC HG HCO HSf hlen
 have HN:=Lib.hid hn
 obtain⟨w1,hw1⟩:∃w1,w1=cmBox w c:=⟨_,rfl⟩
 have HW:=Lib.hid hw1
 rw[←hw1] at HB b1 b2' b11 l3
 obtain⟨S,hS⟩:∃S,x.S=S:=⟨_,rfl⟩
 obtain⟨CA,hCA⟩:∃CA,x.CA=CA:=⟨_,rfl⟩
 obtain⟨cc,hcc⟩:∃cc,x.cc=cc:=⟨_,rfl⟩
 rw[hCA,hcc] at HG HCO HSf
 rw[hS] at HG HSf KC ⊢
 have HS:=Lib.hid (And.intro hS (And.intro hCA hcc))
 have h16:¬(16:Int)≤(n:Int):=by omega
 clear h hss hnm hcl hc24 hbs hn hw1 hO b2 hS hCA hcc
 go_enter Tryz.func23,Tryz.ntmps23
 go_upto_region 1 with (fail)
 have hwx:(w.alloc (cmO c)).alloc (.cells #[.int .i64 0,.int .i64 0,.int .i64 0] 35)=w1:=HW.out.symm
 rw[hwx]
 clear hwx
 go_wp2_with fail
 refine (copyClient_c c.cl mainN w1).mono ?_
 rintro e w2 ⟨rfl,hc2⟩
 obtain⟨w3,hw3⟩:∃w3,w3=w2.alloc (.cells #[.string (bs c.cl),.string ⟨#[109,97,105,110]⟩,.slice none 0 0] 94):=⟨_,rfl⟩
 obtain⟨P6,e6⟩:∃P6,P6=w2.heap.size:=⟨_,rfl⟩
 have hc23:Calm w2 w3:=by rw[hw3];exact (Calm.refl _).alloc _
 have HP6:Hid (CellsB w3 P6 [.string (bs c.cl),.string ⟨#[109,97,105,110]⟩,.slice none 0 0]):=by
  show CellsB _ _ _
  rw[hw3,e6]
  exact CellsB.new w2 _ _
 have HB3:=Lib.hid ((HB.out.to hc2).to hc23)
 clear b1 b2' b11 l3 hc2 hc23
 go_upto_region 2 with (fail)
 have hw3':w2.alloc (.cells #[.string (bs c.cl),.string (bs mainN),.slice none 0 0] 94)=w3:=hw3.symm
 rw[hw3',←e6]
 clear hw3 hw3' e6
 obtain⟨s2,s3,lS⟩:=HG.out w3 HB3.out.calm
 have p0:=HP6.out.at_ 0 _ rfl
 have p1:=HP6.out.at_ 1 _ rfl
 have p2:=HP6.out.at_ 2 _ rfl
 have lp:=HP6.out.lt
 have KV2:Hid (∀P:CalmTo w3,Calls Tryz.prog 64 #[.slice x.SA 1 x.sc,.agg #[.string (bs c.cl),.string ⟨#[109,97,105,110]⟩,.slice none 0 0]] P.w fun e w'=>e=.returned (.int .i64 0)∧Calm P.w w'):=fun P=>KV.out P.w (HB3.out.calm.trans P.h)
 have e0:=fun P:CalmTo w3=>P.cell s2 lS
 have e1:=fun P:CalmTo w3=>P.cell p0 lp
 have e2:=fun P:CalmTo w3=>P.cell p1 lp
 have e3:=fun P:CalmTo w3=>P.cell p2 lp
 clear s2 s3 lS p0 p1 p2 lp
 refine wp_region_calm (by kernel_rfl) (by kernel_rfl) ?_
 repeat (go_big_quiet_step ((go_at_call 64;with_reducible exact calmOf (KV2.out _))))
 refine wpQuiet_nil ?_
 intro w4 hc4
 have HB4:=Lib.hid (HB3.out.to hc4)
 have HP64:=Lib.hid (HP6.out.calm hc4)
 have b1:=HB4.out.c.at_ 1 _ rfl
 have l3:=HB4.out.c.lt
 clear e0 e1 e2 e3 hc4
 go_wp2_with fail
 refine (KC.out w4 HB4.out.calm).mono ?_
 rintro e w5 ⟨rfl,hc5⟩
 have HB5:=Lib.hid (HB4.out.to hc5)
 have HP65:=Lib.hid (HP64.out.calm hc5)
 obtain⟨s2,s3,lS⟩:=HG.out w5 HB5.out.calm
 have p0:=HP65.out.at_ 0 _ rfl
 have p1:=HP65.out.at_ 1 _ rfl
 have p2:=HP65.out.at_ 2 _ rfl
 have lp:=HP65.out.lt
 clear b1 l3 hc5
 go_upto_region 6 with (fail)
 have KI:Hid (∀W b,Calm w5 W→ReadX encCl 3 W (some ⟨b,0,none⟩) [c.cl]→Calls Tryz.prog 65 #[.slice CA n cc,.int .i64 (n:Int),.slice (some ⟨b,0,none⟩) 1 1] W fun e w'=>∃A c',e=.returned (.slice A (n+1) c')∧w'.ownsRow 0 94 3 (.slice A (n+1) c') (n+1) (encs encCl (x.cs++[c.cl]))∧W.grownBy w' (blk CA)∧(blk A=blk CA∨∃i,blk A=some i∧W.heap.size≤i)):=fun W b hW hr=>
  insert_c x.cs c.cl CA cc n b W (HCO.out W (HB5.out.calm.trans hW)) HN.out hlen hr
 have HRd:Hid (ReadX encCl 3 (w5.alloc (.cells #[.string (bs c.cl),.string ⟨#[109,97,105,110]⟩,.slice none 0 0] 94)).drew (some ⟨w5.heap.size,0,none⟩) [c.cl]):=(read_one (enc:=encCl) (K:=3) w5 c.cl _ #[.string (bs c.cl),.string ⟨#[109,97,105,110]⟩,.slice none 0 0] rfl).calm (Below.drew (Calm.refl _))
 have HS5:Hid (∀U,(w5.alloc (.cells #[.string (bs c.cl),.string ⟨#[109,97,105,110]⟩,.slice none 0 0] 94)).drew.grownBy U (blk CA)→U.cell? ⟨S,3,none⟩=some (.slice CA n cc)∧U.frozen? ⟨S,3,none⟩=false∧S < U.heap.size):=fun U hg=>HSf.out _ U (HB5.out.calm.trans (Below.drew ((Calm.refl _).alloc _))) hg
 have HRr:Hid (∀U,(w5.alloc (.cells #[.string (bs c.cl),.string ⟨#[109,97,105,110]⟩,.slice none 0 0] 94)).drew.grownBy U (blk CA)→CellsB U (w.heap.size+1) [.int .i64 0,.int .i64 0,.int .i64 0]):=fun U hg=>((HB5.out.to (Below.drew ((Calm.refl w5).alloc (.cells #[.string (bs c.cl),.string ⟨#[109,97,105,110]⟩,.slice none 0 0] 94)))).r).grown hg (fun e=>HO.out.2 (.inr (.inr (.inr (.inl (by rw[HS.out.2.1];exact e.symm))))))
 have hneS:¬S=w.heap.size+1:=fun e=>HO.out.2 (.inl (by rw[HS.out.1];exact e.symm))
 go_region_law (refine step_go_f rfl 65 _ _ rfl #[.slice CA n cc,.int .i64 (n:Int),.slice (some ⟨w5.heap.size,0,none⟩) 1 1] (by go_simp) (KI.out _ w5.heap.size (Below.drew ((Calm.refl _).alloc _)) HRd.out) ?_;rintro e w8 ⟨A8,c8,rfl,hown,hg8,hfr⟩;refine⟨_,rfl,?_⟩;obtain⟨q3,qf,ql⟩:=HS5.out w8 hg8;have hr8:=HRr.out w8 hg8;have r0:=hr8.at_ 0 _ rfl;have r1:=hr8.at_ 1 _ rfl;have r2:=hr8.at_ 2 _ rfl;have f0:=hr8.fz 0;have f1:=hr8.fz 1;have f2:=hr8.fz 2;have lr:=hr8.lt;have HE8:=Lib.hid (And.intro hown (And.intro hg8 hfr));clear hown hg8 hfr hr8)
 all_goals
  go_wp2_with fail
  obtain⟨hS,hCA,hcc⟩:=HS.out
  have hc6:Calm w5 (w5.alloc (.cells #[.string (bs c.cl),.string ⟨#[109,97,105,110]⟩,.slice none 0 0] 94)).drew:=Below.drew ((Calm.refl _).alloc _)
  have h5:=HSv.out.calm (HB5.out.calm.trans hc6)
  have hadd:=h5.addCl (A:=A8) (c:=c8) (w1:=w8) c.cl (by rw[hCA];exact HE8.out.2.1) (by rw[HN.out];exact HE8.out.1) (by rw[hCA];exact HE8.out.2.2)
  rw[HN.out] at hadd
  have HWn:Hid (Went w x (w8.setCell ⟨x.S,3,none⟩ (.slice A8 (n+1) c8)) { x with CA:=A8,cc:=c8,cs:=x.cs++[c.cl] }):=(Went.same HSv.out (HB5.out.calm.trans hc6)).trans hadd
  have HOff:Hid (w.heap.size+1 < w5.heap.size):=HB5.out.r.lt
  refine bodyPost_ret (v:=.tuple #[rep0,.int .i64 0]) ?_ rfl ⟨rfl,A8,c8,?_⟩
  ·rw[results_cell_slot rfl]
   go_simp
  ·rw[←HS.out.1]
   refine Went.box' HSv.out HWn.out (b:=w.heap.size+1) (by omega) (fun hf=>?_) (Kp.set3 (F:=fun i=>i=w.heap.size+1) (Kp.refl _ _) (.inl rfl) _ _ _) ⟨rfl,rfl,rfl,rfl,rfl,rfl⟩ (fun q hq=>⟨q,hq,rfl,rfl⟩)
   rcases hf with hf | hf | hf | hf | hf
   ·exact HO.out.2 (.inl hf)
   ·exact HO.out.2 (.inr (.inl hf))
   ·exact HO.out.2 (.inr (.inr (.inl hf)))
   ·have hf':blk A8=some (w.heap.size+1):=hf
    rcases HE8.out.2.2 with h | ⟨i,hi,hge⟩
    ·rw[h,←HS.out.2.1] at hf'
     exact HO.out.2 (.inr (.inr (.inr (.inl hf'))))
    ·rw[hi] at hf'
     have e:i=w.heap.size+1:=Option.some.inj hf'
     have h1:=HOff.out
     have h2:w5.heap.size≤(w5.alloc (.cells #[.string (bs c.cl),.string ⟨#[109,97,105,110]⟩,.slice none 0 0] 94)).drew.heap.size:=(Below.drew ((Calm.refl w5).alloc _):Calm w5 _).size
     omega
   ·exact HO.out.2 (.inr (.inr (.inr (.inr hf))))
set_option maxRecDepth 100000 in
set_option maxHeartbeats 16000000 in
theorem doNo_c (x:Srv) (c:Cmd) (p:Pnd) (κ:Nat) (fs:List Nat) (F:Nat) (w:World) (h:SrvAt w x) (hm:(κ,fs,F)∈kindsL) (hk:c.kind=(κ:Int))
  (h2:x.cs.length≤2) (hcl:(bsC x.cs c.cl).2=true) (h3:3∈fs) (hp:x.ps=[p]) (hnum:p.num=c.num) (hne:(p.cl == c.cl)=false) :
  Calls Tryz.prog 6 #[.pointer (some ⟨x.S,0,none⟩),cmV c] w fun e w'=>e=.returned (.tuple #[rep0,.int .i64 213])∧Calm w w':=by
 have hsm:=(kindsL_small _ hm).2.1
 have Hne:Hid (fs≠[]):=(kindsL_small _ hm).2.2
 obtain⟨n,hn⟩:∃n,fs.length=n:=⟨_,rfl⟩
 have hb0:=CmBox.new w c
 have hO:=hb0.off h
 have KC:Hid (∀W,Calm w W→Calls Tryz.prog 15 #[.pointer (some ⟨x.S,0,none⟩),.string (bs c.cl)] W fun e w'=>e=.returned (.tuple #[.int .i64 (bsC x.cs c.cl).1,.bool (bsC x.cs c.cl).2])∧Calm W w'):=fun W hW=>client_c x c.cl W (h.calm hW) h2
 have KP:Hid (∀W,Calm w W→Calls Tryz.prog 16 #[.pointer (some ⟨x.S,0,none⟩),.int .i64 c.num] W fun e w'=>e=.returned (.tuple #[.int .i64 0,.bool true])∧Calm W w'):=fun W hW=>by
  have:=pending_c x p c.num W (h.calm hW) hp
  rw[show pendI p c.num=0 by unfold pendI;rw[if_pos hnum],show (p.num == c.num)=true by simpa using hnum] at this
  exact this
 obtain⟨g,hg,hg1,_⟩:=h.pnAt hp
 have HG:Hid (∀W,Calm w W→W.cell? ⟨x.S,7,none⟩=some (.slice (some ⟨g,0,none⟩) 1 x.pc)∧W.cell? ⟨g,1,none⟩=some (.string (bs p.cl))∧x.S < W.heap.size∧g < W.heap.size∧1≤x.pc):=fun W hW=>by
  have z7:=(h.calm hW).z.at_ 7 _ rfl
  rw[hp,hg] at z7
  obtain⟨b,o,hA,hb,hk⟩:=(h.calm hW).pns hp (by simp)
  rw[hg] at hA
  cases hA
  exact⟨z7,hk 0 p rfl 1 _ rfl,(h.calm hW).z.lt,hb,hg1⟩
 have HKL:Hid (∀W M (L:List Knd),KI W W M L→True):=fun _ _ _ _=>trivial
 have HK:Hid (∀(w0 W:World) (M:Nat) (L:List Knd),KI w0 W M L→L.map (fun x:Knd=>(x.κ,x.fs,x.F))=kindsL→∃kb,kb < W.heap.size∧(∀(i:Nat) v,(fs.map fun (k:Nat)=>Value.int .i64 (Int.ofNat k))[i]?=some v→W.cell? ⟨kb,i,none⟩=some v)∧∀W',Calm W W'→(Instr.lookup 75 (.map (some M)) (.int .i64 c.kind) true).run Tryz.prog W'=.ok (.tuple #[.agg #[.slice (some ⟨kb,0,none⟩) n n,.func (.func F) #[] #[]],.bool true]) W'):=fun w0 W M L hKI hL=>by
  have:=kind_look hKI hL hm
  rw[←hk,hn] at this
  exact this
 have HNE:Hid ((p.cl == c.cl)=false):=hne
 have H3:=Lib.hid h3
 have HO:=Lib.hid hO
 have HSv:=Lib.hid h
 have HB:=Lib.hid hb0
 have HN:=Lib.hid hn
 have Hsm:=Lib.hid hsm
 have HCl:Hid ((bsC x.cs c.cl).2=true):=hcl
 obtain⟨ci,hci⟩:∃ci,(bsC x.cs c.cl).1=ci:=⟨_,rfl⟩
 obtain⟨cb,hcb⟩:∃cb,(bsC x.cs c.cl).2=cb:=⟨_,rfl⟩
 rw[hci,hcb] at KC
 rw[hcb] at HCl
 clear h hm hk hcl hp hnum hne h3 hO hb0 hn hsm h2 HKL hci hcb hg hg1
 obtain⟨S,hS⟩:∃S,x.S=S:=⟨_,rfl⟩
 rw[hS] at KC KP HG ⊢
 have HS:=Lib.hid hS
 clear hS
 go_enter Tryz.func6,Tryz.ntmps6
 go_upto_region 1 with (fail)
 obtain⟨w1,hw1⟩:∃w1,w1=cmBox w c:=⟨_,rfl⟩
 have hwx:(w.alloc (cmO c)).alloc (.cells #[.int .i64 0,.int .i64 0,.int .i64 0] 35)=w1:=hw1.symm
 rw[hwx]
 rw[←hw1] at HB
 clear hw1 hwx
 have HSX:Hid (∀W,Calm w1 W→W.cell? ⟨w.heap.size,0,none⟩=some (.int .i64 c.kind)):=fun W hW=>(HB.out.to hW).c.at_ 0 _ rfl
 have s0:=HSX.out w1 (Calm.refl _)
 go_cut [6,7] (fun a b wx=>∃B kb,a=.pointer (some ⟨B,0,none⟩)∧b=.bool true∧Hid (Calm w1 wx∧CellsB wx B [.slice (some ⟨kb,0,none⟩) n n,.func (.func F) #[] #[]]∧kb < wx.heap.size∧∀(i:Nat) v,(fs.map fun (k:Nat)=>Value.int .i64 (Int.ofNat k))[i]?=some v→wx.cell? ⟨kb,i,none⟩=some v))
 case first=>
  have KK:=Lib.hid fun (W:World)=>srvKinds_c W
  clear KC KP HG HO HSv HB HN HCl HS Hsm
  go_region_held3 (fun W=>W.cell? ⟨w.heap.size,0,none⟩=some (.int .i64 c.kind))
   (first
    |with_reducible exact HSX.out _ (calm_set2 hkx (Nat.le_refl _) _ _)
    |with_reducible exact HSX.out _ (calm_set2 (hkx.alloc _) hkx.size _ _)
    |with_reducible exact HSX.out _ (Calm.refl _)
    |with_reducible exact HSX.out _ (Below.drew (Calm.refl _))
    |with_reducible exact HSX.out _ (Below.drew ((Calm.refl _).alloc _))
    |with_reducible exact HSX.out _ ((Calm.refl _).alloc _)
    |with_reducible exact HSX.out _ hkx
    |with_reducible exact HSX.out _ (Calm.alloc hkx _)
    |go_keep)
   (first
    |(go_at_call 13;refine (KK.out _).mono ?_;rintro e w5 ⟨M,L,rfl,hL,hKI⟩;obtain⟨kb,hkb,hkc,hlk⟩:=HK.out _ _ M L hKI hL;have hkx:Calm w1 w5:=Calm.trans (by first | exact Calm.refl _ | exact Below.drew (Calm.refl _) | exact (Calm.refl _).alloc _ | exact (Below.drew (Calm.refl _)).alloc _ | exact Below.drew ((Calm.refl _).alloc _)) hKI.calm;have hlk5:=hlk w5 (Calm.refl _);have hlk6:∀o,(Instr.lookup 75 (.map (some M)) (.int .i64 c.kind) true).run Tryz.prog (w5.alloc o)=.ok (.tuple #[.agg #[.slice (some ⟨kb,0,none⟩) n n,.func (.func F) #[] #[]],.bool true]) (w5.alloc o):=fun o=>hlk _ ((Calm.refl _).alloc _);(first | (with_reducible have hZ5:CellsB w5 w1.heap.size [.slice none 0 0,.nilFunc]:=CellsB.calm (by first | with_reducible exact CellsB.new w1 _ _ | with_reducible exact (CellsB.new w1 _ _).calm (Below.drew (Calm.refl _)) | with_reducible exact CellsB.new w1.drew _ _) hKI.calm;have f0:=hZ5.fz 0;have f1:=hZ5.fz 1;have z0:=hZ5.at_ 0 _ rfl;have z1:=hZ5.at_ 1 _ rfl) | skip);have HLK:=Lib.hid hlk;have HKC:=Lib.hid (And.intro hkb hkc);clear hlk hkc hKI hL))
  all_goals
   go_wp2_with fail
   go_meet
   case rel=>first
    |(with_reducible refine⟨_,kb,rfl,rfl,Lib.hid ⟨hkx.alloc _,CellsB.new w5 _ _,Nat.lt_of_lt_of_le HKC.out.1 ((Calm.refl w5).alloc _).size,fun i v hv=>Calm.at_ ((Calm.refl w5).alloc _) (HKC.out.2 i v hv) HKC.out.1⟩⟩)
    |exact⟨w1.heap.size,kb,rfl,rfl,Lib.hid ⟨calm_set2 hkx (Nat.le_refl _) _ _,hZ5.put [.slice (some ⟨kb,0,none⟩) n n,.func (.func F) #[] #[]] rfl,by rw[show ∀(W:World) a u b v,((W.setCell a u).setCell b v).heap.size=W.heap.size from fun _ _ _ _ _=>by simp[World.setCell]];exact HKC.out.1,kb_keep Hne.out hZ5 HKC.out.2 _ _⟩⟩
 case rest=>
  obtain⟨B,kb,rfl,rfl,HQ1⟩:=hcut
  obtain⟨w3,rfl⟩:∃w3,w3=wc:=⟨_,rfl⟩
  have HB3:Hid (CmBox w w3 c w.heap.size (w.heap.size+1)):=HB.out.to HQ1.out.1
  have HCt:=Lib.hid fun (W:World) (hW:Calm w3 W) (z:Nat)=>containsI_c fs z kb n W (Nat.lt_of_lt_of_le HQ1.out.2.2.1 hW.size) Hsm.out HN.out (fun i v hv=>Calm.at_ hW (HQ1.out.2.2.2 i v hv) HQ1.out.2.2.1)
  have HBk:=Lib.hid fun (W:World) (hW:Calm w3 W)=>HQ1.out.2.1.calm hW
  obtain⟨tt,htt⟩:∃tt,(decide (0∈fs) && !(c.kind == 2))=tt:=⟨_,rfl⟩
  have HTT:=Lib.hid htt
  have k0:=HQ1.out.2.1.at_ 0 _ rfl
  have lB:=HQ1.out.2.1.lt
  have a0:=HB3.out.c.at_ 0 _ rfl
  have l3:=HB3.out.c.lt
  clear htt s0 HQ1 HSX
  go_upto_region 4 with (fail)
  go_cut [29] (fun s wx=>s=.bool tt∧Hid (Calm w3 wx))
  case first=>
   go_wp2_with fail
   refine (HCt.out w3 (Calm.refl _) 0).mono ?_
   rintro e w' ⟨rfl,rfl⟩
   obtain⟨p0,hp0⟩:∃p0,decide (0∈fs)=p0:=⟨_,rfl⟩
   rw[hp0] at HTT ⊢
   clear hp0
   cases p0 with
   |false=>
    obtain rfl:false=tt:=HTT.out
    go_wp2_with fail
    go_meet
    case rel=>exact⟨rfl,Calm.refl _⟩
   |true=>
    obtain⟨b2,hb2⟩:∃b2,(c.kind == 2)=b2:=⟨_,rfl⟩
    rw[hb2] at HTT
    have hb3:(c.kind != 2)=!b2:=by rw[←hb2];rfl
    clear hb2
    cases b2 with
    |false=>
     obtain rfl:true=tt:=HTT.out
     go_wp2_with fail
     go_meet
     case rel=>exact⟨rfl,Calm.refl _⟩
    |true=>
     obtain rfl:false=tt:=HTT.out
     go_wp2_with fail
     go_meet
     case rel=>exact⟨rfl,Calm.refl _⟩
  case rest=>
   obtain⟨rfl,hc4⟩:=hcut
   obtain⟨w4,rfl⟩:∃w4,w4=wc:=⟨_,rfl⟩
   have HC4:Hid (CmBox w w4 c w.heap.size (w.heap.size+1)∧Calm w3 w4):=⟨HB3.out.to hc4.out,hc4.out⟩
   have a1:=HC4.out.1.c.at_ 1 _ rfl
   have l3:=HC4.out.1.c.lt
   clear hc4 k0 lB a0
   go_upto_if 29 with (fail)
   go_cut [] (fun wx=>Hid (Calm w3 wx))
   case first=>
    cases tt with
    |false=>
     go_wp2_with fail
     go_meet
     case rel=>exact HC4.out.2
    |true=>
     have hcbt:cb=true:=by
      exact HCl.out
     subst hcbt
     go_wp2_with fail
     refine (KC.out w4 HC4.out.1.calm).mono ?_
     rintro e w5 ⟨rfl,hc5⟩
     have HC5:Hid (Calm w3 w5):=HC4.out.2.trans hc5
     clear hc5
     go_wp2_with fail
     go_meet
     case rel=>exact HC5.out
   case rest=>
    obtain⟨w5,rfl⟩:∃w5,w5=wc:=⟨_,rfl⟩
    have HC5:Hid (CmBox w w5 c w.heap.size (w.heap.size+1)∧Calm w3 w5):=⟨HB3.out.to hcut.out,hcut.out⟩
    have k0:=(HBk.out w5 HC5.out.2).at_ 0 _ rfl
    have lB:=(HBk.out w5 HC5.out.2).lt
    have a4:=HC5.out.1.c.at_ 4 _ rfl
    have l3:=HC5.out.1.c.lt
    clear hcut a1
    go_wp2_with fail
    refine (HCt.out w5 HC5.out.2 3).mono ?_
    rintro e w' ⟨rfl,rfl⟩
    rw[decide_eq_true H3.out]
    go_wp2_with fail
    refine (KP.out w5 HC5.out.1.calm).mono ?_
    rintro e w6 ⟨rfl,hc6⟩
    have HC6:Hid (CmBox w w6 c w.heap.size (w.heap.size+1)∧Calm w3 w6):=⟨HC5.out.1.to hc6,HC5.out.2.trans hc6⟩
    clear hc6
    obtain⟨z7,g1,lS,lg,hpc⟩:=HG.out w6 HC6.out.1.calm
    have a1:=HC6.out.1.c.at_ 1 _ rfl
    have l3:=HC6.out.1.c.lt
    have hr:=HC6.out.1.r
    have hne:=HNE.out
    clear k0 lB a4 hr
    go_upto_region 10 with (fail)
    go_cut [64] (fun s wx=>s=.bool true∧Hid (Calm w6 wx))
    case first=>
     go_quiet (fail)
     go_wp2_with fail
     go_meet
     case rel=>exact⟨rfl,(Calm.refl _).drewN _⟩
    case rest=>
     obtain⟨rfl,hc7⟩:=hcut
     obtain⟨w7,rfl⟩:∃w7,w7=wc:=⟨_,rfl⟩
     have HB7:=Lib.hid (HC6.out.1.to hc7.out)
     have hr:=HB7.out.r
     have r0:=hr.at_ 0 _ rfl
     have r1:=hr.at_ 1 _ rfl
     have r2:=hr.at_ 2 _ rfl
     have f0:=hr.fz 0
     have f1:=hr.fz 1
     have f2:=hr.fz 2
     have lr:=hr.lt
     clear z7 g1 lS lg hpc a1 l3 hne hr hc7
     go_wp2_with fail
     refine bodyPost_ret (v:=.tuple #[rep0,.int .i64 213]) ?_ rfl ⟨rfl,?_⟩
     ·rw[results_cell_slot rfl]
      go_simp
     ·exact calm_set3 HB7.out.calm (Nat.le_succ _) _ _ _
variable {w w':World} {x:Srv}
theorem SrvAt.putMap (h:SrvAt w x) {k:Nat} {D:DataW Value} (hk:Kp (fun i=>i=x.M) w w') (hm:MapH w' x.M k D):Went w x w' { x with k:=k,D:=D }:=by
 refine Went.make h (hk.mono fun i hi=>.inl (.inr (.inr (.inl hi)))) _ (fun i hi=>.inl hi) (h.z.kp hk h.ne.2.1) (h.t.kp hk h.ne.2.2) hm h.ne
  (ownsRow_kp h.cl hk (fun b hb e=>?_)) (ownsRow_kp h.pn hk (fun b hb e=>?_)) h.fc h.fp (.inl ⟨rfl,rfl⟩) (.inl ⟨rfl,rfl⟩) (.inl ⟨rfl,rfl⟩) (fun p hp=>.inl ⟨p,hp,rfl,rfl⟩)
 ·rw[own_blk] at hb
  exact h.caOff (.inr (.inr rfl)) (e ▸ hb)
 ·rw[own_blk] at hb
  exact h.paOff (.inr (.inr rfl)) (e ▸ hb)
set_option maxRecDepth 100000 in
set_option maxHeartbeats 16000000 in
theorem doAcquire_c (x:Srv) (c:Cmd) (w:World) (h:SrvAt w x) (hD:x.D=.map []) (hk:x.k≤1000) (hpa:c.pa=xPath) (hcl:c.cl=annN) (hti:c.ticks=10) :
  Calls Tryz.prog 31 #[.pointer (some ⟨x.S,0,none⟩),cmV c] w fun e w'=>
   e=.returned (.tuple #[.agg #[.int .i64 0,.int .i64 1,.int .i64 10],.int .i64 0])∧Went w x w' { x with k:=x.k+1,D:=xD }:=by
 have KA:Hid (∀W,Calm (cmBox w c) W→Calls Tryz.prog 75 #[.pointer (some ⟨x.T,0,none⟩),.string (bs c.pa),.string (bs c.cl),.int .i64 c.ticks] W fun e w'=>e=.returned (.tuple #[.agg #[.string ⟨#[47,47,109,97,105,110,47,120]⟩,.string ⟨#[97,110,110]⟩,.int .i64 1,.int .i64 0,.int .i64 10],.int .i64 0])∧MapH w' x.M (x.k+1) xD∧Kp (fun i=>i=x.M) W w'):=fun W hW=>by
  have hs:=h.calm ((CmBox.new w c).calm.trans hW)
  have hm:=hs.m
  rw[hD] at hm
  rw[hpa,hcl,hti]
  exact acquire_c x.T x.M x.k W hs.t hm hk h.ne.2.2
 have HB:=Lib.hid (CmBox.new w c)
 have hO:=(CmBox.new w c).off h
 have HSX:Hid (∀W,Kp (fun i=>i=x.M) (cmBox w c) W→W.cell? ⟨x.S,0,none⟩=some (.pointer (some ⟨x.T,0,none⟩))∧W.cell? ⟨w.heap.size,3,none⟩=some (.string (bs c.pa))∧W.cell? ⟨w.heap.size,1,none⟩=some (.string (bs c.cl))∧W.cell? ⟨w.heap.size,6,none⟩=some (.int .i64 c.ticks)):=fun W hW=>by
  have z:=(h.calm HB.out.calm).z.kp hW h.ne.2.1
  have c0:=HB.out.c.kp hW (fun e=>hO.1 (.inr (.inr (.inl e))))
  exact⟨z.at_ 0 _ rfl,c0.at_ 3 _ rfl,c0.at_ 1 _ rfl,c0.at_ 6 _ rfl⟩
 have HSv:=Lib.hid h
 have HO:=Lib.hid hO
 clear h hD hk hpa hcl hti hO
 go_enter Tryz.func31,Tryz.ntmps31
 go_wp2_with fail
 obtain⟨w1,hw1⟩:∃w1,w1=(w.alloc (cmO c)).alloc (.cells #[.int .i64 0,.int .i64 0,.int .i64 0] 35):=⟨_,rfl⟩
 have hw2:w1=cmBox w c:=hw1
 rw[←hw1]
 rw[←hw2] at KA HSX HB
 have HNM:Hid (¬w1.heap.size=x.M):=by
  have:=(HSv.out.calm HB.out.calm).m.lt
  exact fun e=>by omega
 clear hw1 hw2
 obtain⟨s0,s3,s1,s6⟩:=HSX.out w1 (Kp.refl _ _)
 have hM1:x.M < w1.heap.size:=(HSv.out.calm HB.out.calm).m.lt
 have HM1:=Lib.hid hM1
 clear hM1
 go_cut [6,7] (fun a e wx=>∃B,a=.pointer (some ⟨B,0,none⟩)∧e=.int .i64 0∧Hid (w1.heap.size≤B∧CellsB wx B [.string ⟨#[47,47,109,97,105,110,47,120]⟩,.string ⟨#[97,110,110]⟩,.int .i64 1,.int .i64 0,.int .i64 10]∧MapH wx x.M (x.k+1) xD∧Kp (fun i=>i=x.M) w1 wx))
 case first=>
  clear HSv HO HB
  go_region_held3 (fun W=>W.cell? ⟨x.S,0,none⟩=some (.pointer (some ⟨x.T,0,none⟩))∧W.cell? ⟨w.heap.size,3,none⟩=some (.string (bs c.pa))∧W.cell? ⟨w.heap.size,1,none⟩=some (.string (bs c.cl))∧W.cell? ⟨w.heap.size,6,none⟩=some (.int .i64 c.ticks))
   (first
    |with_reducible exact HSX.out _ (Kp.refl _ _)
    |with_reducible exact HSX.out _ ((Below.drew (Calm.refl _)).kp _)
    |with_reducible exact HSX.out _ ((Below.drew ((Calm.refl _).alloc _)).kp _)
    |with_reducible exact HSX.out _ (((Calm.refl _).alloc _).kp _)
    |with_reducible exact HSX.out _ hkx
    |with_reducible exact HSX.out _ (Kp.set5 hkx (.inr (Nat.le_refl _)) _ _ _ _ _)
    |with_reducible exact HSX.out _ (Kp.set5 (Kp.alloc hkx _) (.inr hkx.size) _ _ _ _ _)
    |with_reducible exact HSX.out _ (hkx.trans' ((Calm.refl _).alloc _ |>.kp _) (fun _ h=>.inl h))
    |go_keep)
   (first
    |(go_at_call 75;refine (KA.out _ (by first | exact Calm.refl _ | exact Below.drew (Calm.refl _) | exact (Calm.refl _).alloc _ | exact (Below.drew (Calm.refl _)).alloc _ | exact Below.drew ((Calm.refl _).alloc _))).mono ?_;rintro e w5 ⟨rfl,hm5,hk5⟩;have hkx:Kp (fun i=>i=x.M) w1 w5:=Kp.trans' (Calm.kp (by first | exact Calm.refl _ | exact Below.drew (Calm.refl _) | exact (Calm.refl _).alloc _ | exact (Below.drew (Calm.refl _)).alloc _ | exact Below.drew ((Calm.refl _).alloc _)) _) hk5 (fun _ h=>.inl h);(first | (with_reducible have hZ5:CellsB w5 w1.heap.size [.string ⟨#[]⟩,.string ⟨#[]⟩,.int .i64 0,.int .i64 0,.int .i64 0]:=CellsB.kp (by first | with_reducible exact CellsB.new w1 _ _ | with_reducible exact (CellsB.new w1 _ _).calm (Below.drew (Calm.refl _)) | with_reducible exact CellsB.new w1.drew _ _) hk5 HNM.out;have f0:=hZ5.fz 0;have f1:=hZ5.fz 1;have f2:=hZ5.fz 2;have f3:=hZ5.fz 3;have f4:=hZ5.fz 4;have z0:=hZ5.at_ 0 _ rfl;have z1:=hZ5.at_ 1 _ rfl;have z2:=hZ5.at_ 2 _ rfl;have z3:=hZ5.at_ 3 _ rfl;have z4:=hZ5.at_ 4 _ rfl) | skip)))
  all_goals
   go_wp2_with fail
   go_meet
   case rel=>first
    |(with_reducible refine⟨_,rfl,rfl,Lib.hid ⟨hkx.size,CellsB.new w5 _ _,hm5.calm ((Calm.refl _).alloc _),hkx.alloc _⟩⟩)
    |exact⟨w1.heap.size,rfl,rfl,Lib.hid ⟨Nat.le_refl _,((((hZ5.setc 0 _ (by decide)).setc 1 _ (by decide)).setc 2 _ (by decide)).setc 3 _ (by decide)).setc 4 _ (by decide),MapH.kp hm5 (Kp.set5 (Kp.refl (fun i=>i=w1.heap.size) w5) (.inl rfl) _ _ _ _ _) (fun e=>HNM.out e.symm),Kp.set5 hkx (.inr (Nat.le_refl _)) _ _ _ _ _⟩⟩
 case rest=>
  obtain⟨B,rfl,rfl,hQ⟩:=hcut
  have HQ:=hQ
  have hr:=((HB.out).kp hQ.out.2.2.2 (fun e=>HO.out.1 (.inr (.inr (.inl e)))) (fun e=>HO.out.2 (.inr (.inr (.inl e))))).2
  have r0:=hr.at_ 0 _ rfl
  have r1:=hr.at_ 1 _ rfl
  have r2:=hr.at_ 2 _ rfl
  have f0:=hr.fz 0
  have f1:=hr.fz 1
  have f2:=hr.fz 2
  have lr:=hr.lt
  have b2:=hQ.out.2.1.at_ 2 _ rfl
  have b4:=hQ.out.2.1.at_ 4 _ rfl
  clear hr hQ s0 s3 s1 s6
  go_wp2_with fail
  refine bodyPost_ret (v:=.tuple #[.agg #[.int .i64 0,.int .i64 1,.int .i64 10],.int .i64 0]) ?_ rfl ⟨rfl,?_⟩
  ·rw[results_cell_slot rfl]
   go_simp
  ·exact Went.box' HSv.out ((Went.same HSv.out HB.out.calm).trans ((HSv.out.calm HB.out.calm).putMap HQ.out.2.2.2 HQ.out.2.2.1)) (b:=w.heap.size+1) (by omega) HO.out.2 (Kp.set3 (F:=fun i=>i=w.heap.size+1) (Kp.refl _ _) (.inl rfl) _ _ _) ⟨rfl,rfl,rfl,rfl,rfl,rfl⟩ (fun q hq=>⟨q,hq,rfl,rfl⟩)
structure Fr (F:Nat→Prop) (w':World) (x x':Srv):Prop where
 str:(x'.SA=x.SA∧x'.ss=x.ss)∨Stays F w' (fun W=>StrmsU W x'.SA x'.ss)
 rev:(x'.RA=x.RA∧x'.rs=x.rs)∨Stays F w' (fun W=>ReadX RowK.vs 12 W x'.RA x'.rs)
 chg:(x'.HA=x.HA∧x'.hs=x.hs)∨(Stays F w' (fun W=>ReadX encCg 5 W x'.HA x'.hs)∧∀c∈x'.hs,∃q∈x.ps,c.EA=q.EA∧c.l=q.l)
 eds:∀p∈x'.ps,(∃q∈x.ps,p.EA=q.EA∧p.l=q.l)∨Stays F w' (fun W=>ReadX encEd 12 W p.EA p.l)
theorem Went.boxed {w W w':World} {x x':Srv} {b:Nat} (h:SrvAt w x) (hc:Calm w W) (hb1:w.heap.size≤b) (hb2:b < W.heap.size) (hw:Went W x w' x') (hf:Fr (fun i=>x'.F i∨i < W.heap.size) w' x x') (u0 u1 u2:Value) :
  Went w x (((w'.setCell ⟨b,0,none⟩ u0).setCell ⟨b,1,none⟩ u1).setCell ⟨b,2,none⟩ u2) x':=by
 have hoff:¬x'.F b:=fun hF=>(hw.far b hF).elim (fun h1=>by have:=h.lt b h1;omega) (fun h1=>by omega)
 have up:∀{X:World→Prop},Stays (fun i=>x'.F i∨i < W.heap.size) w' X→Stays (fun i=>x'.F i∨i=b) w' X:=fun hX=>hX.kp' (Kp.refl _ _) (fun i hi=>.inl (hi.imp_right fun e=>by rw[e];exact hb2))
 refine Went.box h ((Went.same h hc).trans hw) (b:=b) hb1 hoff (Kp.set3 (F:=fun i=>i=b) (Kp.refl _ _) (.inl rfl) _ _ _) (hf.str.imp_right up) (hf.rev.imp_right up) (hf.chg.imp_right fun hh=>⟨up hh.1,fun c hcm=>?_⟩) (fun p hp=>(hf.eds p hp).imp_right up)
 obtain⟨q,hq,h1,h2⟩:=hh.2 c hcm
 rw[h1,h2]
 exact (h.eds q hq).kp' ((hc.kp _).trans hw.kp) (fun i hi=>hi.elim (fun hF=>(hw.far i hF).imp_right (Nat.le_trans hc.size)) (fun e=>.inr (by rw[e];exact hb1)))
theorem Fr.ps {F:Nat→Prop} {w':World} {x x':Srv} (h1:x'.SA=x.SA∧x'.ss=x.ss) (h2:x'.RA=x.RA∧x'.rs=x.rs) (h3:x'.HA=x.HA∧x'.hs=x.hs) (h4:∀p∈x'.ps,∃q∈x.ps,p.EA=q.EA∧p.l=q.l):Fr F w' x x':=⟨.inl h1,.inl h2,.inl h3,fun p hp=>.inl (h4 p hp)⟩
theorem Fr.same {F:Nat→Prop} {w':World} {x:Srv}:Fr F w' x x:=Fr.ps ⟨rfl,rfl⟩ ⟨rfl,rfl⟩ ⟨rfl,rfl⟩ (fun p hp=>⟨p,hp,rfl,rfl⟩)
theorem stays_low {N:Nat} {F:Nat→Prop} {w:World} {X:World→Prop} (h:Stays (fun i=>i < N) w X) (hF:∀i,F i→i < N):Stays (fun i=>F i∨i < N) w X:=h.kp' (Kp.refl _ _) (fun i hi=>.inl (hi.elim (hF i) id))
theorem cmStream (x:Srv) (c:Cmd) (w:World) (h:SrvAt w x) (hk:c.kind=1) (hss:x.ss=[]) (hSA:x.SA=none) (hsc:x.sc=0) (hcs:x.cs=[]) (hn:c.sn=mainN) (hp:c.sp=[]) (hsl:c.sl=1) (hl:LinesU w c.SA [allLine]) :
  Calls Tryz.prog 6 #[.pointer (some ⟨x.S,0,none⟩),cmV c] w fun e w'=>e=.returned (.tuple #[rep0,.int .i64 0])∧∃A sc,Went w x w' { x with SA:=A,sc:=sc,ss:=mainS }:=
 do_c x c 1 [7] 22 w h (by decide) hk (fun args W=>enters_of Tryz.func22 (by kernel_rfl) rfl args W) (by rw[hcs];decide) (fun h _=>absurd h (by decide)) (fun h=>absurd h (by decide))
  (fun W e w'=>e=.returned (.tuple #[rep0,.int .i64 0])∧∃A sc,Went W x w' { x with SA:=A,sc:=sc,ss:=mainS }∧Stays (fun i=>i < W.heap.size) w' (fun U=>StrmsU U A mainS)) _
  (fun W hW=>doStream_c x c W (h.calm hW) hss hSA hsc hcs hn hp hsl (hl.calm hW))
  (fun W e w' b hW hb1 hb2 hq=>by
   obtain⟨he,A,sc,hw,hst⟩:=hq
   exact⟨0,0,0,0,he,hw.kp,he,A,sc,Went.boxed h hW hb1 hb2 hw ⟨.inr (stays_low hst (h.calm hW).lt),.inl ⟨rfl,rfl⟩,.inl ⟨rfl,rfl⟩,fun p hp=>.inl ⟨p,hp,rfl,rfl⟩⟩ _ _ _⟩)
theorem cmClient (x:Srv) (c:Cmd) (w:World) (h:SrvAt w x) (hk:c.kind=2) (hss:x.ss=mainS) (hnm:c.nm=mainN) (hcl:nameS c.cl=true) (hc24:c.cl.length≤24) (hlen:x.cs.length≤1) (hbs:bsC x.cs c.cl=((x.cs.length:Int),false)) :
  Calls Tryz.prog 6 #[.pointer (some ⟨x.S,0,none⟩),cmV c] w fun e w'=>e=.returned (.tuple #[rep0,.int .i64 0])∧∃A cc,Went w x w' { x with CA:=A,cc:=cc,cs:=x.cs++[c.cl] }:=
 do_c x c 2 [0,1,8] 23 w h (by decide) hk (fun args W=>enters_of Tryz.func23 (by kernel_rfl) rfl args W) (by omega) (fun _ h=>absurd rfl h) (fun h=>absurd h (by decide))
  (fun W e w'=>e=.returned (.tuple #[rep0,.int .i64 0])∧∃A cc,Went W x w' { x with CA:=A,cc:=cc,cs:=x.cs++[c.cl] }) _
  (fun W hW=>doClient_c x c W (h.calm hW) hss hnm hcl hc24 hlen hbs)
  (fun W e w' b hW hb1 hb2 hq=>by
   obtain⟨he,A,cc,hw⟩:=hq
   exact⟨0,0,0,0,he,hw.kp,he,A,cc,Went.boxed h hW hb1 hb2 hw (Fr.ps ⟨rfl,rfl⟩ ⟨rfl,rfl⟩ ⟨rfl,rfl⟩ (fun p hp=>⟨p,hp,rfl,rfl⟩)) _ _ _⟩)
theorem cmNew (x:Srv) (c:Cmd) (w:World) (h:SrvAt w x) (hk:c.kind=3) (h2:x.cs.length≤2) (hcl:(bsC x.cs c.cl).2=true) (hp:x.ps=[]) (htk:0≤x.tk∧x.tk≤1000) (htx:c.tx.length≤1024) :
  Calls Tryz.prog 6 #[.pointer (some ⟨x.S,0,none⟩),cmV c] w fun e w'=>e=.returned (.tuple #[.agg #[.int .i64 (x.tk+1),.int .i64 0,.int .i64 0],.int .i64 0])∧∃A pc,Went w x w' { x with tk:=x.tk+1,PA:=A,pc:=pc,ps:=[newPn x c] }:=
 do_c x c 3 [0,6] 24 w h (by decide) hk (fun args W=>enters_of Tryz.func24 (by kernel_rfl) rfl args W) h2 (fun _ _=>hcl) (fun h=>absurd h (by decide))
  (fun W e w'=>e=.returned (.tuple #[.agg #[.int .i64 (x.tk+1),.int .i64 0,.int .i64 0],.int .i64 0])∧∃A pc,Went W x w' { x with tk:=x.tk+1,PA:=A,pc:=pc,ps:=[newPn x c] }) _
  (fun W hW=>doNew_c x c W (h.calm hW) hp htk htx)
  (fun W e w' b hW hb1 hb2 hq=>by
   obtain⟨he,A,pc,hw⟩:=hq
   refine⟨x.tk+1,0,0,0,he,hw.kp,he,A,pc,Went.boxed h hW hb1 hb2 hw ⟨.inl ⟨rfl,rfl⟩,.inl ⟨rfl,rfl⟩,.inl ⟨rfl,rfl⟩,fun p hp=>.inr (fun U _ hne=>?_)⟩ _ _ _⟩
   rw[List.mem_singleton.1 hp] at hne
   exact absurd rfl hne)
def PutTo (w:World) (x:Srv) (p:Pnd) (l:List Edt) (e:Ending) (w':World):Prop:=
 (suitE none l≠0∧e=.returned (.tuple #[rep0,.int .i64 (suitE none l)])∧Went w x w' x) ∨
 (suitE none l=0∧e=.returned (.tuple #[rep0,.int .i64 0])∧∃A ec,Went w x w' { x with ps:=[{ p with EA:=A,ec:=ec,l:=l }] })
theorem cmPut (x:Srv) (p:Pnd) (c:Cmd) (l:List Edt) (i:Nat) (w:World) (h:SrvAt w x) (hk:c.kind=4) (hss:x.ss=mainS) (hp:x.ps=[p]) (hn:p.num=c.num) (hpc:p.cl=c.cl) (hsh:p.sh=false) (h2:x.cs.length≤2) (hci:bsC x.cs c.cl=((i:Int),true)) (hcs:x.cs[i]?=some c.cl)
  (hX:ReadX encEd 12 w c.EA l) (hl:l.length=c.en) (hln:c.en≤64) (hs:∀y∈l,y.path.length≤1048576∧y.frm.length≤1048576) (hM:MaxL w) :
  Calls Tryz.prog 6 #[.pointer (some ⟨x.S,0,none⟩),cmV c] w fun e w'=>PutTo w x p l e w':=
 do_c x c 4 [0,3,9,10] 25 w h (by decide) hk (fun args W=>enters_of Tryz.func25 (by kernel_rfl) rfl args W) h2 (fun _ _=>by rw[hci]) (fun _=>⟨p,hp,hn,hpc⟩)
  (fun W e w'=>PutEd W x p l e w') _
  (fun W hW=>doPut_c x p c l i W (h.calm hW) hss hp hn hsh h2 hci hcs (hX.calm hW) hl hln hs (hM.calm hW))
  (fun W e w' b hW hb1 hb2 hq=>by
   rcases hq with⟨h0,he,hw⟩ | ⟨h0,he,A,ec,hw,hst⟩
   ·exact⟨0,0,0,_,he,hw.kp,.inl ⟨h0,he,Went.boxed h hW hb1 hb2 hw Fr.same _ _ _⟩⟩
   ·refine⟨0,0,0,_,he,hw.kp,.inr ⟨h0,he,A,ec,Went.boxed h hW hb1 hb2 hw ⟨.inl ⟨rfl,rfl⟩,.inl ⟨rfl,rfl⟩,.inl ⟨rfl,rfl⟩,fun q hq=>.inr ?_⟩ _ _ _⟩⟩
    rw[List.mem_singleton.1 hq]
    exact stays_low hst (h.calm hW).lt)
theorem cmShelve (x:Srv) (p:Pnd) (c:Cmd) (w:World) (h:SrvAt w x) (hk:c.kind=5) (h2:x.cs.length≤2) (hcl:(bsC x.cs c.cl).2=true) (hp:x.ps=[p]) (hn:p.num=c.num) (hpc:p.cl=c.cl) (hsh:p.sh=false) (hl:p.l≠[]) :
  Calls Tryz.prog 6 #[.pointer (some ⟨x.S,0,none⟩),cmV c] w fun e w'=>e=.returned (.tuple #[rep0,.int .i64 0])∧Went w x w' { x with ps:=[{ p with sh:=true }] }:=
 do_c x c 5 [0,3] 26 w h (by decide) hk (fun args W=>enters_of Tryz.func26 (by kernel_rfl) rfl args W) h2 (fun _ _=>hcl) (fun _=>⟨p,hp,hn,hpc⟩)
  (fun W e w'=>e=.returned (.tuple #[rep0,.int .i64 0])∧Went W x w' { x with ps:=[{ p with sh:=true }] }) _
  (fun W hW=>shelve_c x p c W (h.calm hW) hp hn hsh hl)
  (fun W e w' b hW hb1 hb2 hq=>by
   obtain⟨he,hw⟩:=hq
   exact⟨0,0,0,0,he,hw.kp,he,Went.boxed h hW hb1 hb2 hw (Fr.ps ⟨rfl,rfl⟩ ⟨rfl,rfl⟩ ⟨rfl,rfl⟩ (fun q hq=>by rw[List.mem_singleton.1 hq];exact⟨p,by rw[hp];exact List.mem_singleton.2 rfl,rfl,rfl⟩)) _ _ _⟩)
theorem cmHand (x:Srv) (p:Pnd) (c:Cmd) (w:World) (h:SrvAt w x) (hk:c.kind=6) (h2:x.cs.length≤2) (hcl:(bsC x.cs c.cl).2=true) (hp:x.ps=[p]) (hn:p.num=c.num) (hpc:p.cl=c.cl) (hsh:p.sh=true) (hnm:(bsC x.cs c.nm).2=true) :
  Calls Tryz.prog 6 #[.pointer (some ⟨x.S,0,none⟩),cmV c] w fun e w'=>e=.returned (.tuple #[rep0,.int .i64 0])∧Went w x w' { x with ps:=[{ p with cl:=c.nm }] }:=
 do_c x c 6 [0,3,1] 28 w h (by decide) hk (fun args W=>enters_of Tryz.func28 (by kernel_rfl) rfl args W) h2 (fun _ _=>hcl) (fun _=>⟨p,hp,hn,hpc⟩)
  (fun W e w'=>e=.returned (.tuple #[rep0,.int .i64 0])∧Went W x w' { x with ps:=[{ p with cl:=c.nm }] }) _
  (fun W hW=>hand_c x p c W (h.calm hW) hp hn hsh h2 hnm)
  (fun W e w' b hW hb1 hb2 hq=>by
   obtain⟨he,hw⟩:=hq
   exact⟨0,0,0,0,he,hw.kp,he,Went.boxed h hW hb1 hb2 hw (Fr.ps ⟨rfl,rfl⟩ ⟨rfl,rfl⟩ ⟨rfl,rfl⟩ (fun q hq=>by rw[List.mem_singleton.1 hq];exact⟨p,by rw[hp];exact List.mem_singleton.2 rfl,rfl,rfl⟩)) _ _ _⟩)
theorem cmDrop (x:Srv) (p:Pnd) (c:Cmd) (w:World) (h:SrvAt w x) (hk:c.kind=7) (h2:x.cs.length≤2) (hcl:(bsC x.cs c.cl).2=true) (hp:x.ps=[p]) (hn:p.num=c.num) (hpc:p.cl=c.cl) :
  Calls Tryz.prog 6 #[.pointer (some ⟨x.S,0,none⟩),cmV c] w fun e w'=>e=.returned (.tuple #[rep0,.int .i64 0])∧Went w x w' { x with ps:=[] }:=
 do_c x c 7 [0,3] 29 w h (by decide) hk (fun args W=>enters_of Tryz.func29 (by kernel_rfl) rfl args W) h2 (fun _ _=>hcl) (fun _=>⟨p,hp,hn,hpc⟩)
  (fun W e w'=>e=.returned (.tuple #[rep0,.int .i64 0])∧Went W x w' { x with ps:=[] }) _
  (fun W hW=>doDrop_c x p c W (h.calm hW) hp hn)
  (fun W e w' b hW hb1 hb2 hq=>by
   obtain⟨he,hw⟩:=hq
   exact⟨0,0,0,0,he,hw.kp,he,Went.boxed h hW hb1 hb2 hw (Fr.ps ⟨rfl,rfl⟩ ⟨rfl,rfl⟩ ⟨rfl,rfl⟩ (fun q hq=>by cases hq)) _ _ _⟩)
def SubTo (w:World) (x:Srv) (p:Pnd) (q:Edt→Bool) (e:Ending) (w':World):Prop:=
 (subE q p.l≠0∧e=.returned (.tuple #[rep0,.int .i64 (subE q p.l)])∧Went w x w' x) ∨
 (subE q p.l=0∧e=.returned (.tuple #[.agg #[.int .i64 1,.int .i64 0,.int .i64 0],.int .i64 0])∧∃RA rc HA hc,Went w x w' { x with RA:=RA,rc:=rc,rs:=p.l.map (revR 1),HA:=HA,hc:=hc,hs:=[⟨1,p.cl,p.tx,p.EA,p.ec,p.l⟩],ps:=[] }∧Stays (fun i=>i < w.heap.size) w' (fun U=>ReadX RowK.vs 12 U RA (p.l.map (revR 1)))∧Stays (fun i=>i < w.heap.size) w' (fun U=>ReadX encCg 5 U HA [⟨1,p.cl,p.tx,p.EA,p.ec,p.l⟩]))
theorem cmSubmit (x:Srv) (p:Pnd) (c:Cmd) (q:Edt→Bool) (i:Nat) (w:World) (h:SrvAt w x) (hk:c.kind=8) (hss:x.ss=mainS) (hp:x.ps=[p]) (hn:p.num=c.num) (hpc:p.cl=c.cl) (h2:x.cs.length≤2) (hci:bsC x.cs c.cl=((i:Int),true)) (hcs:x.cs[i]?=some c.cl)
  (hrs:x.rs=[]) (hRA:x.RA=none) (hrc:x.rc=0) (hhs:x.hs=[]) (hHA:x.HA=none) (hhc:x.hc=0)
  (hln:p.l.length≤64) (hs:∀y∈p.l,y.path.length≤1048576∧y.frm.length≤1048576) (hM:MaxL w)
  (HH:∀y∈p.l,y.tx=true→∀W,Calm w W→Calls Tryz.prog 110 #[.pointer (some ⟨x.T,0,none⟩),.string (bs y.path),.string (bs c.cl),.int .i64 y.fence] W fun e w'=>e=.returned (.bool (q y))∧Calm W w') :
  Calls Tryz.prog 6 #[.pointer (some ⟨x.S,0,none⟩),cmV c] w fun e w'=>SubTo w x p q e w':=
 do_c x c 8 [0,3] 30 w h (by decide) hk (fun args W=>enters_of Tryz.func30 (by kernel_rfl) rfl args W) h2 (fun _ _=>by rw[hci]) (fun _=>⟨p,hp,hn,hpc⟩)
  (fun W e w'=>SubEd W x p q e w') _
  (fun W hW=>doSubmit_c x p c q i W (h.calm hW) hss hp hn h2 hci hcs hrs hRA hrc hhs hHA hhc hln hs (hM.calm hW) (fun y hy ht W' hW'=>HH y hy ht W' (hW.trans hW')))
  (fun W e w' b hW hb1 hb2 hq=>by
   rcases hq with⟨h0,he,hw⟩ | ⟨h0,he,RA,rc,HA,hc,hw,hst1,hst2⟩
   ·exact⟨0,0,0,_,he,hw.kp,.inl ⟨h0,he,Went.boxed h hW hb1 hb2 hw Fr.same _ _ _⟩⟩
   ·have kb:Kp (fun i=>i < W.heap.size) w' (((w'.setCell ⟨b,0,none⟩ (.int .i64 1)).setCell ⟨b,1,none⟩ (.int .i64 0)).setCell ⟨b,2,none⟩ (.int .i64 0)):=Kp.set3 (Kp.refl _ _) (b:=b) (.inl hb2) _ _ _
    refine⟨1,0,0,_,he,hw.kp,.inr ⟨h0,he,RA,rc,HA,hc,Went.boxed h hW hb1 hb2 hw ⟨.inl ⟨rfl,rfl⟩,.inr (stays_low hst1 (h.calm hW).lt),.inr ⟨stays_low hst2 (h.calm hW).lt,fun ch hch=>?_⟩,fun q hq=>by cases hq⟩ _ _ _,hst1.kp' kb (fun i hi=>.inl (Nat.lt_of_lt_of_le hi hW.size)),hst2.kp' kb (fun i hi=>.inl (Nat.lt_of_lt_of_le hi hW.size))⟩⟩
    rw[List.mem_singleton.1 hch]
    exact⟨p,by rw[hp];exact List.mem_singleton.2 rfl,rfl,rfl⟩)
theorem cmAcquire (x:Srv) (c:Cmd) (w:World) (h:SrvAt w x) (hk:c.kind=9) (h2:x.cs.length≤2) (hb:(bsC x.cs c.cl).2=true) (hD:x.D=.map []) (hk2:x.k≤1000) (hpa:c.pa=xPath) (hcl:c.cl=annN) (hti:c.ticks=10) :
  Calls Tryz.prog 6 #[.pointer (some ⟨x.S,0,none⟩),cmV c] w fun e w'=>e=.returned (.tuple #[.agg #[.int .i64 0,.int .i64 1,.int .i64 10],.int .i64 0])∧Went w x w' { x with k:=x.k+1,D:=xD }:=
 do_c x c 9 [0,2,5] 31 w h (by decide) hk (fun args W=>enters_of Tryz.func31 (by kernel_rfl) rfl args W) h2 (fun _ _=>hb) (fun h=>absurd h (by decide))
  (fun W e w'=>e=.returned (.tuple #[.agg #[.int .i64 0,.int .i64 1,.int .i64 10],.int .i64 0])∧Went W x w' { x with k:=x.k+1,D:=xD }) _
  (fun W hW=>doAcquire_c x c W (h.calm hW) hD hk2 hpa hcl hti)
  (fun W e w' b hW hb1 hb2 hq=>by
   obtain⟨he,hw⟩:=hq
   exact⟨0,1,10,0,he,hw.kp,he,Went.boxed h hW hb1 hb2 hw (Fr.ps ⟨rfl,rfl⟩ ⟨rfl,rfl⟩ ⟨rfl,rfl⟩ (fun q hq=>⟨q,hq,rfl,rfl⟩)) _ _ _⟩)
end Go.Proofs.YtcofdlipapnohaaGreatDoor
