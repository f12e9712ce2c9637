/- Walk: a stream added to none. -/
import Derived.Test.YtcofdlipapnohaaGreatDoorZCpSs
import Derived.Test.YtcofdlipapnohaaGreatDoorZSrvN
import Derived.Test.YtcofdlipapnohaaGreatDoorZDoNw
import Derived.Test.YtcofdlipapnohaaGreatDoorZStrCheck
set_option linter.unusedVariables false
set_option linter.unusedSimpArgs false
namespace Go.Proofs.YtcofdlipapnohaaGreatDoor
open Go Go.RowKit Sy
variable {w w':World} {x:Srv}
theorem SrvAt.putStr (h:SrvAt w x) (A:Option Addr) (c:Nat) (ss:List Strm) (hst:Stays x.F w (fun W=>StrmsU W A ss)) :
  Went w x (w.setCell ⟨x.S,2,none⟩ (.slice A ss.length c)) { x with SA:=A,sc:=c,ss:=ss }:=by
 have k:Kp (fun i=>i=x.S) w (w.setCell ⟨x.S,2,none⟩ (.slice A ss.length c)):=kp_set w _ _ _ rfl
 have k2:Kp x.F w (w.setCell ⟨x.S,2,none⟩ (.slice A ss.length c)):=k.mono fun i hi=>.inl (.inl hi)
 refine Went.make h k2 _ (fun i hi=>.inl hi) (h.z.setc 2 (.slice A ss.length c) (by simp[Srv.vs])) (h.t.kp k (fun e=>h.ne.1 e.symm)) (h.m.kp k (fun e=>h.ne.2.1 e.symm)) h.ne
  (ownsRow_kp h.cl k (fun b hb e=>?_)) (ownsRow_kp h.pn k (fun b hb e=>?_)) h.fc h.fp (.inr (hst.kp k2)) (.inl ⟨rfl,rfl⟩) (.inl ⟨rfl,rfl⟩) (fun p hp=>.inl ⟨p,hp,rfl,rfl⟩)
 ·rw[own_blk] at hb
  exact h.caOff (.inl rfl) (e ▸ hb)
 ·rw[own_blk] at hb
  exact h.paOff (.inl rfl) (e ▸ hb)
theorem idxStr0_c (f:Value) (A:Option Addr) (c:Nat) (W:World):Calls Tryz.prog 60 #[.slice A 0 c,f] W fun e w'=>e=.returned (.int .i64 (-1))∧W=w':=by
 go_enter Tryz.func60,Tryz.ntmps60
 go_wp2_with fail
 go_loopw [8] (fun i wr=>i=.int .i64 0∧wr=W) (fun _ _=>0)
 case atStart=>exact⟨rfl,rfl⟩
 case round=>
  obtain⟨rfl,rfl⟩:=hrel
  go_wp2_with fail
  go_ret
  exact⟨rfl,rfl⟩
def mainRow (PA:Option Addr) (pc:Nat):RowK 3:=⟨[.string ⟨#[109,97,105,110]⟩,.string ⟨#[]⟩,.slice PA 1 pc],rfl,by simp[Value.oneCell']⟩
theorem main_strms {F:Nat→Prop} {w0 w:World} {A:Option Addr} {c:Nat} {PA:Option Addr} {pc:Nat} (h:OwnX RowK.vs 3 41 w0 w (.slice A 1 c) [mainRow PA pc]) (hF:∀i,F i→i < w0.heap.size) (hl:Stays F w (fun U=>LinesU U PA [allLine])) (h1:1≤pc) (h2:pc≤9223372036854775807) :
  Stays F w (fun U=>StrmsU U A mainS):=fun U kU=>by
 have hr:=OwnX.stays rowK_len h hF U kU
 obtain⟨b,o,hA,hb,hk⟩:=hr (by simp)
 refine⟨by decide,fun _=>⟨b,o,hA,hb,fun k s hs=>?_⟩⟩
 match k,hs with
 |0,hs=>
  obtain rfl:=Option.some.inj hs
  refine⟨PA,pc,⟨?_,?_,?_⟩,by decide,by decide,hl U kU,h1,h2⟩
  ·exact hk 0 _ rfl 0 _ rfl
  ·exact hk 0 _ rfl 1 _ rfl
  ·exact hk 0 _ rfl 2 _ rfl
theorem main_err:strErr mainS=(0,0):=by decide +kernel
set_option maxRecDepth 100000 in
set_option maxHeartbeats 16000000 in
theorem doStream_c (x:Srv) (c:Cmd) (w:World) (h:SrvAt w x) (hss:x.ss=[]) (hSA:x.SA=none) (hsc:x.sc=0) (hcs:x.cs=[]) (hn:c.sn=mainN) (hp:c.sp=[]) (hsl:c.sl=1) (hl:LinesU w c.SA [allLine]) :
  Calls Tryz.prog 22 #[.pointer (some ⟨x.S,0,none⟩),cmV c] w fun e w'=>e=.returned (.tuple #[rep0,.int .i64 0])∧∃A sc,Went w x w' { x with SA:=A,sc:=sc,ss:=mainS }∧Stays (fun i=>i < w.heap.size) w' (fun U=>StrmsU U A mainS):=by
 have KSh:Hid (∀W,Calm w W→Calls Tryz.prog 58 #[.agg #[.string (bs c.sn),.string (bs c.sp),.slice c.SA c.sl c.sc]] W fun e w'=>e=.returned (.bool true)∧Calm W w'):=fun W hW=>by
  rw[hsl]
  exact shortStream_c c.sn c.sp allLine c.SA c.sc W (hl.calm hW) ⟨by decide,by decide,by decide,by decide⟩
 have KCp:Hid (∀W,Calm w W→Calls Tryz.prog 43 #[.agg #[.string (bs c.sn),.string (bs c.sp),.slice c.SA c.sl c.sc]] W fun e w'=>(∃A pc,e=.returned (.agg #[.string ⟨#[109,97,105,110]⟩,.string ⟨#[]⟩,.slice A 1 pc])∧1≤pc∧pc≤9223372036854775807∧Stays (fun i=>i < W.heap.size) w' (fun U=>LinesU U A [allLine]))∧Calm W w'):=fun W hW=>by
  have:=copyStream_c c.sn c.sp allLine c.SA c.sc W (hl.calm hW)
  rw[hn,hp] at this ⊢
  rw[hsl]
  exact this
 have KCl:Hid (∀W,Calls Tryz.prog 59 #[.slice none 0 0] W fun e w'=>CloneK 3 41 W [] 0 e w'):=fun W=>cloneStream_c [] none 0 0 W (fun hne=>absurd rfl hne) rfl (by decide)
 have HG:Hid (∀W,Calm w W→W.cell? ⟨x.S,2,none⟩=some (.slice none 0 0)∧W.cell? ⟨x.S,3,none⟩=some (.slice x.CA 0 x.cc)∧W.frozen? ⟨x.S,2,none⟩=false∧x.S < W.heap.size):=fun W hW=>by
  have h1:=(h.calm hW).z
  have z2:=h1.at_ 2 _ rfl
  have z3:=h1.at_ 3 _ rfl
  rw[hSA,hss,hsc] at z2
  rw[hcs] at z3
  exact⟨z2,z3,h1.fz 2,h1.lt⟩
 have HB:=Lib.hid (CmBox.new w c)
 have hO:=(CmBox.new w c).off h
 have HO:=Lib.hid hO
 have HSv:=Lib.hid h
 have HF:Hid (∀i,x.F i→i < w.heap.size):=h.lt
 have b8:=(CmBox.new w c).c.at_ 8 _ rfl
 have b9:=(CmBox.new w c).c.at_ 9 _ rfl
 have b10:=(CmBox.new w c).c.at_ 10 _ rfl
 have l3:=(CmBox.new w c).c.lt
 obtain⟨w1,hw1⟩:∃w1,w1=cmBox w c:=⟨_,rfl⟩
 have HW:=Lib.hid hw1
 rw[←hw1] at HB b8 b9 b10 l3
 clear h hss hSA hsc hcs hn hp hsl hl hO hw1
 go_enter Tryz.func22,Tryz.ntmps22
 go_upto_region 1 with (fail)
 have hwx:(w.alloc (cmO c)).alloc (.cells #[.int .i64 0,.int .i64 0,.int .i64 0] 35)=w1:=HW.out.symm
 rw[hwx]
 clear hwx
 go_wp2_with fail
 refine (KSh.out w1 HB.out.calm).mono ?_
 rintro e w2 ⟨rfl,hc2⟩
 have HB2:=Lib.hid (HB.out.to hc2)
 obtain⟨s2,_,_,lS⟩:=HG.out w2 HB2.out.calm
 clear hc2 b8 b9 b10 l3
 go_wp2_with fail
 refine (KCl.out w2).mono ?_
 rintro e w3 ⟨A3,c3,rfl,hown3⟩
 have HB3:=Lib.hid (HB2.out.to hown3.calm)
 have HO3:=Lib.hid hown3
 have b8:=HB3.out.c.at_ 8 _ rfl
 have b9:=HB3.out.c.at_ 9 _ rfl
 have b10:=HB3.out.c.at_ 10 _ rfl
 have l3:=HB3.out.c.lt
 clear hown3 s2 lS
 go_wp2_with fail
 refine (KCp.out w3 HB3.out.calm).mono ?_
 rintro e w4 ⟨⟨PA,pc,rfl,hpc1,hpc2,hst⟩,hc4⟩
 obtain⟨w5,hw5⟩:∃w5,w5=w4.alloc (.cells #[.string ⟨#[109,97,105,110]⟩,.string ⟨#[]⟩,.slice PA 1 pc] 41):=⟨_,rfl⟩
 obtain⟨P7,e7⟩:∃P7,P7=w4.heap.size:=⟨_,rfl⟩
 have hc45:Calm w4 w5:=by rw[hw5];exact (Calm.refl _).alloc _
 have HP7:Hid (CellsB w5 P7 [.string ⟨#[109,97,105,110]⟩,.string ⟨#[]⟩,.slice PA 1 pc]):=by
  show CellsB _ _ _
  rw[hw5,e7]
  exact CellsB.new w4 _ _
 have HO5:Hid (OwnX RowK.vs 3 41 w2 w5 (.slice A3 0 c3) []):=(HO3.out.to hc4).to hc45
 have HB5:=Lib.hid ((HB3.out.to hc4).to hc45)
 have HSt:Hid (1≤pc∧pc≤9223372036854775807∧Stays (fun i=>i < w3.heap.size) w5 (fun U=>LinesU U PA [allLine])):=⟨hpc1,hpc2,hst.calm hc45⟩
 clear hc4 hc45 hst hpc1 hpc2 b8 b9 b10 l3
 go_upto_region 5 with (fail)
 rw[←hw5,←e7]
 clear hw5 e7
 go_wp2_with fail
 refine (idxStr0_c _ A3 c3 w5).mono ?_
 rintro e w6 ⟨rfl,rfl⟩
 have d0:=HP7.out.at_ 0 _ rfl
 have d1:=HP7.out.at_ 1 _ rfl
 have d2:=HP7.out.at_ 2 _ rfl
 have l7:=HP7.out.lt
 go_wp2_with (at_builtin;refine wpList_append_xs (enc:=RowK.vs) (K:=3) (T:=41) Tryz.underlying46 infoK_Stream rfl (by decide) (by decide) rowK_len rowK_one rfl (.tmp 37) (.tmp 39) rfl w2 _ [] [mainRow PA pc] rfl (HO5.out.to ((Calm.refl _).alloc _)) (some ⟨w5.heap.size,0,none⟩) 1 1 rfl rfl (read_one (enc:=RowK.vs) (K:=3) w5 (mainRow PA pc) _ #[.string ⟨#[109,97,105,110]⟩,.string ⟨#[]⟩,.slice PA 1 pc] rfl) (by decide) ?_;intro v6 w6 hown6 hgr6;obtain⟨A6,c6,hv6⟩:=hown6.len_shape;rw[List.nil_append] at hown6 hv6;subst hv6;have HO6:=Lib.hid hown6;have HGr:=Lib.hid hgr6;clear hown6 hgr6)
 have HStr:Hid (Stays (fun i=>i < w2.heap.size) w6 (fun U=>StrmsU U A6 mainS)):=by
  refine main_strms HO6.out (fun i hi=>hi) ?_ HSt.out.1 HSt.out.2.1
  refine Stays.kp' (F:=fun i=>i < w3.heap.size) (w:=w5) HSt.out.2.2 ((((Calm.refl w5).alloc _).kp _).trans (Kp.grown HGr.out (fun i hi=>.inl ?_))) (fun i hi=>.inl (Nat.lt_of_lt_of_le hi HO3.out.calm.size))
  exact (HO3.out.own.lt i hi).2
 have KCk:Hid (Calls Tryz.prog 62 #[.slice A6 1 c6] w6 fun e w'=>e=.returned (.tuple #[.int .i64 0,.int .i64 0])∧Calm w6 w'):=by
  have:=strcheck_c mainS A6 1 c6 w6 HStr.out.now rfl
  rw[main_err] at this
  exact this
 have HB6:=Lib.hid (HB2.out.to HO6.out.calm)
 clear d0 d1 d2 l7
 go_wp2_with fail
 refine KCk.out.mono ?_
 rintro e w7 ⟨rfl,hc7⟩
 have HB7:=Lib.hid (HB6.out.to hc7)
 have HC7:=Lib.hid hc7
 obtain⟨s2,s3,sf,lS⟩:=HG.out w7 HB7.out.calm
 clear hc7
 go_wp2_with fail
 go_loopw [55] (fun i wr=>i=.int .i64 0∧wr=w7) (fun _ _=>0)
 case atStart=>exact⟨rfl,rfl⟩
 case round=>
  obtain⟨rfl,rfl⟩:=hrel
  obtain⟨w7,rfl⟩:∃w7,w7=wr:=⟨_,rfl⟩
  have hr:=HB7.out.r
  have r0:=hr.at_ 0 _ rfl
  have r1:=hr.at_ 1 _ rfl
  have r2:=hr.at_ 2 _ rfl
  have f0:=hr.fz 0
  have f1:=hr.fz 1
  have f2:=hr.fz 2
  have lr:=hr.lt
  have hneS:¬x.S=w.heap.size+1:=fun e=>HO.out.2 (.inl e.symm)
  clear hr
  go_wp2_with fail
  have h0:=HSv.out
  have h7:=h0.calm HB7.out.calm
  have hst:Stays (fun i=>i < w2.heap.size) w7 (fun U=>StrmsU U A6 mainS):=HStr.out.calm HC7.out
  have hlt2:∀i,x.F i→i < w2.heap.size:=fun i hi=>Nat.lt_of_lt_of_le (HF.out i hi) HB2.out.calm.size
  have hp:=h7.putStr A6 c6 mainS (Stays.kp' (F:=fun i=>i < w2.heap.size) hst (Kp.refl _ _) (fun i hi=>.inl (hlt2 i hi)))
  have kS:Kp (fun i=>i < w2.heap.size) w7 (w7.setCell ⟨x.S,2,none⟩ (.slice A6 1 c6)):=(Kp.refl _ _).set1 (b:=x.S) (.inl (hlt2 _ (.inl rfl))) 2 _
  refine bodyPost_ret (v:=.tuple #[rep0,.int .i64 0]) ?_ rfl ⟨rfl,A6,c6,?_,?_⟩
  ·rw[results_cell_slot rfl]
   go_simp
  ·exact Went.box h0 ((Went.same h0 HB7.out.calm).trans hp) (b:=w.heap.size+1) (by omega) HO.out.2 (Kp.set3 (F:=fun i=>i=w.heap.size+1) (Kp.refl _ _) (.inl rfl) _ _ _)
    (.inr (Stays.kp' (F:=fun i=>i < w2.heap.size) hst kS (fun i hi=>.inl (hi.elim (hlt2 i) (fun e=>by rw[e];exact HB2.out.r.lt))))) (.inl ⟨rfl,rfl⟩) (.inl ⟨rfl,rfl⟩) (fun q hq=>.inl ⟨q,hq,rfl,rfl⟩)
  ·exact Stays.kp' (F:=fun i=>i < w2.heap.size) hst (kS.trans (Kp.set3 (Kp.refl _ _) (b:=w.heap.size+1) (.inl HB2.out.r.lt) _ _ _)) (fun i hi=>.inl (Nat.lt_of_lt_of_le hi HB2.out.calm.size))
end Go.Proofs.YtcofdlipapnohaaGreatDoor
