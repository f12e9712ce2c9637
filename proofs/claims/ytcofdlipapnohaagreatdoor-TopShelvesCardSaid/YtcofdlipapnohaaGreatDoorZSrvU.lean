/- Walk: edits that suit a client. -/
import Derived.StillTailTactics
import Derived.Test.YtcofdlipapnohaaGreatDoorZSrvW
import Derived.Test.YtcofdlipapnohaaGreatDoorZCpSs
import Derived.Test.YtcofdlipapnohaaGreatDoorZHisC
set_option linter.unusedVariables false
set_option linter.unusedSimpArgs false
namespace Go.Proofs.YtcofdlipapnohaaGreatDoor
open Go Go.RowKit Sy
set_option maxRecDepth 100000 in
set_option maxHeartbeats 4000000 in
theorem writer_c (x:Srv) (nm:Str) (w:World) (h:SrvAt w x) (hss:x.ss=mainS) :
  Calls Tryz.prog 98 #[.pointer (some ⟨x.S,0,none⟩),.agg #[.string (bs nm),.string ⟨#[109,97,105,110]⟩,.slice none 0 0]] w fun e w'=>(∃A c,e=.returned (.agg #[.slice x.SA 1 x.sc,.string (bs nm),.string ⟨#[109,97,105,110]⟩,.slice none 0 0,.slice A 1 c])∧MainE w' A)∧Calm w w':=by
 have HS:Hid (∀W,Calm w W→W.cell? ⟨x.S,2,none⟩=some (.slice x.SA 1 x.sc)∧x.S < W.heap.size):=fun W hW=>by
  have h1:=(h.calm hW).z.at_ 2 _ rfl
  rw[hss] at h1
  exact⟨h1,(h.calm hW).z.lt⟩
 have KV:Hid (∀W,Calm w W→Calls Tryz.prog 94 #[.slice x.SA 1 x.sc,.agg #[.string (bs nm),.string ⟨#[109,97,105,110]⟩,.slice none 0 0]] W fun e w'=>(∃A c,e=.returned (.tuple #[.slice A 1 c,.int .i64 0])∧MainN w' W.heap.size A∧1≤c∧c≤9223372036854775807)∧Calm W w'):=fun W hW=>by
  have:=(h.calm hW).str.now
  rw[hss] at this
  exact vwof_c nm x.SA x.sc W this
 obtain⟨S,hS⟩:∃S,x.S=S:=⟨_,rfl⟩
 obtain⟨SA,hSA⟩:∃SA,x.SA=SA:=⟨_,rfl⟩
 obtain⟨sc,hsc⟩:∃sc,x.sc=sc:=⟨_,rfl⟩
 rw[hS,hSA,hsc] at HS
 rw[hSA,hsc] at KV ⊢
 rw[hS]
 obtain⟨w1,hw1⟩:∃w1,w1=(w.alloc (.cells #[.string (bs nm),.string ⟨#[109,97,105,110]⟩,.slice none 0 0] 94)).alloc (.cells #[.slice none 0 0,.string ⟨#[]⟩,.string ⟨#[]⟩,.slice none 0 0,.slice none 0 0] 182):=⟨_,rfl⟩
 have hc1:Calm w w1:=by rw[hw1];exact ((Calm.refl _).alloc _).alloc _
 obtain⟨P3,e3⟩:∃P3,w.heap.size=P3:=⟨_,rfl⟩
 obtain⟨P4,e4⟩:∃P4,P3+1=P4:=⟨_,rfl⟩
 have h3:CellsB w1 P3 [.string (bs nm),.string ⟨#[109,97,105,110]⟩,.slice none 0 0]:=by
  rw[hw1,←e3]
  exact (CellsB.new w _ _).calm ((Calm.refl _).alloc _)
 have h4:CellsB w1 P4 [.slice none 0 0,.string ⟨#[]⟩,.string ⟨#[]⟩,.slice none 0 0,.slice none 0 0]:=by
  rw[hw1,←e4,←e3]
  have:=CellsB.new (w.alloc (.cells #[.string (bs nm),.string ⟨#[109,97,105,110]⟩,.slice none 0 0] 94)) #[.slice none 0 0,.string ⟨#[]⟩,.string ⟨#[]⟩,.slice none 0 0,.slice none 0 0] 182
  rwa [World.size_alloc] at this
 have hP4:w1.heap[P4]?=some (.cells #[.slice none 0 0,.string ⟨#[]⟩,.string ⟨#[]⟩,.slice none 0 0,.slice none 0 0] 182 (0,0)):=by
  rw[hw1,←e4,←e3]
  have:=heap_alloc_new (w.alloc (.cells #[.string (bs nm),.string ⟨#[109,97,105,110]⟩,.slice none 0 0] 94)) (.cells #[.slice none 0 0,.string ⟨#[]⟩,.string ⟨#[]⟩,.slice none 0 0,.slice none 0 0] 182)
  rwa [World.size_alloc] at this
 have HP4:=Lib.hid hP4
 have HW:=Lib.hid hw1
 have HE:=Lib.hid (And.intro e3 e4)
 have HC1:=Lib.hid hc1
 have H3:=Lib.hid h3
 have H4:=Lib.hid h4
 obtain⟨s2,lS⟩:=HS.out w1 hc1
 have t0:=h3.at_ 0 _ rfl
 have t1:=h3.at_ 1 _ rfl
 have t2:=h3.at_ 2 _ rfl
 have l3:=h3.lt
 clear h hss hS hSA hsc hw1 hc1 e3 e4 h3 h4 hP4
 go_enter Tryz.func98,Tryz.ntmps98
 go_upto_region 1 with (fail)
 rw[←HW.out]
 simp only[HE.out.1,HE.out.2]
 go_region_law (refine step_go_any rfl 94 #[.slice SA 1 sc,.agg #[.string (bs nm),.string ⟨#[109,97,105,110]⟩,.slice none 0 0]] (by go_simp) (KV.out _ (Below.drew HC1.out)) ?_;rintro e w2 ⟨⟨A,c,rfl,hE,hcc1,hcc2⟩,hc2⟩;refine⟨_,rfl,?_⟩)
 all_goals
  have hcw:Calm w1 w2:=Calm.trans (Below.drew (Calm.refl w1)) hc2
  have HC2:Hid (Calm w w2):=HC1.out.trans hcw
  obtain⟨s2',lS'⟩:=HS.out w2 HC2.out
  have h3':=H3.out.calm hcw
  have h4':=H4.out.calm hcw
  have q0:=h3'.at_ 0 _ rfl
  have q1:=h3'.at_ 1 _ rfl
  have q2:=h3'.at_ 2 _ rfl
  have z0:=h4'.at_ 0 _ rfl
  have z1:=h4'.at_ 1 _ rfl
  have z2:=h4'.at_ 2 _ rfl
  have z3:=h4'.at_ 3 _ rfl
  have z4:=h4'.at_ 4 _ rfl
  have f0:=h4'.fz 0
  have f1:=h4'.fz 1
  have f2:=h4'.fz 2
  have f3:=h4'.fz 3
  have f4:=h4'.fz 4
  have lq:=h3'.lt
  have lz:=h4'.lt
  have HEe:=Lib.hid ((hE.mono (B':=P4+1) (by have:=H4.out.lt;show P4+1≤w1.drew.heap.size;exact this)).set5 ((hcw.block P4 H4.out.lt).trans HP4.out) (by simp) (Nat.lt_succ_self _) (.slice SA 1 sc) (.string (bs nm)) (.string ⟨#[109,97,105,110]⟩) (.slice none 0 0) (.slice A 1 c))
  clear hcw hc2 h3' h4' t0 t1 t2 l3 s2 lS hE
  go_wp2_with fail
  go_still_tail 7,(by kernel_rfl)
  change wpList _ _ _ _ _ w2.drew
  go_wp2_with fail
  refine bodyPost_ret (v:=.agg #[.slice SA 1 sc,.string (bs nm),.string ⟨#[109,97,105,110]⟩,.slice none 0 0,.slice A 1 c]) ?_ rfl ⟨⟨A,c,rfl,?_⟩,?_⟩
  ·rw[results_cell1 rfl]
   go_simp
  ·exact (HEe.out.calm (Below.drew (Calm.refl _))).toE
  ·exact Below.drew (calm_set5 HC2.out (by have:=HE.out;omega) _ _ _ _ _)
theorem recorded_c (w:World):Calls Tryz.prog 69 #[.slice none 0 0] w fun e w'=>e=.returned (.bool true)∧w=w':=by
 go_enter Tryz.func69,Tryz.ntmps69
 go_wp2_with fail
 go_loopw [7] (fun i wr=>i=.int .i64 0∧wr=w) (fun _ _=>0)
 case atStart=>exact⟨rfl,rfl⟩
 case round=>
  obtain⟨rfl,rfl⟩:=hrel
  go_wp2_with fail
  go_ret
  exact⟨rfl,rfl⟩
def bef (l:List Edt) (k:Nat):Option Str:=if k=0 then none else (l[k - 1]?).map (·.path)
def formE (b:Option Str) (x:Edt):Int:=if pathS x.path=false∨200 < x.frm.length then 111 else if (b.map fun q=>afterS q x.path)=some false then 112 else 0
set_option maxRecDepth 100000 in
set_option maxHeartbeats 8000000 in
theorem formed_c (l:List Edt) (x:Edt) (k n c:Nat) (EA:Option Addr) (w:World) (hX:ReadX encEd 12 w EA l) (hl:l.length=n) (hn:n≤64) (hx:l[k]?=some x) (hs:∀y∈l,y.path.length≤1048576∧y.frm.length≤1048576) :
  Calls Tryz.prog 99 #[.slice EA n c,.int .i64 k] w fun e w'=>e=.returned (.int .i64 (formE (bef l k) x))∧Calm w w':=by
 have hk:k < n:=by rw[←hl];exact (List.getElem?_eq_some_iff.1 hx).1
 obtain⟨b,o,x',rfl,hb,hx',hat⟩:=edits_get hX (k:=k) (by rw[hl];exact hk)
 obtain rfl:x=x':=by rw[hx] at hx';exact Option.some.inj hx'
 obtain⟨hp,hf⟩:=hs x (List.mem_of_getElem? hx)
 have c0:=hat.c0
 have c1:=hat.c1
 have c2:=hat.c2
 have c3:=hat.c3
 have c4:=hat.c4
 have c5:=hat.c5
 have c6:=hat.c6
 have c7:=hat.c7
 have c8:=hat.c8
 have c9:=hat.c9
 have c10:=hat.c10
 have c11:=hat.c11
 obtain⟨R,hR⟩:∃R,formE (bef l k) x=R:=⟨_,rfl⟩
 rw[hR]
 have hfl:((bs x.frm).size:Int)=(x.frm.length:Int):=by rw[bs_size]
 have HB:Hid (∀j,k=j+1→∃q,l[j]?=some q∧q.path.length≤1048576∧∀W,Calm w W→W.cell? ⟨b,o+j * 12,none⟩=some (.string (bs q.path))∧b < W.heap.size):=fun j hj=>by
  obtain⟨b',o',q,hA,hb',hq,hatq⟩:=edits_get hX (k:=j) (by rw[hl];omega)
  cases hA
  exact⟨q,hq,(hs q (List.mem_of_getElem? hq)).1,fun W hW=>⟨hW.at_ hatq.c0 hb',Nat.lt_of_lt_of_le hb' hW.size⟩⟩
 unfold formE at hR
 clear hX hl hs hat hx hx'
 by_cases hp1:pathS x.path=false
 ·rw[if_pos (.inl hp1)] at hR
  subst hR
  go_enter Tryz.func99,Tryz.ntmps99
  go_wp2_with fail
  refine (spath_c x.path _ (by omega)).mono ?_
  rintro e w2 ⟨rfl,rfl⟩
  rw[hp1]
  go_wp2_with fail
  go_ret
  exact⟨rfl,(Calm.refl _).alloc _⟩
 ·have hp2:pathS x.path=true:=by simpa using hp1
  by_cases hf1:200 < x.frm.length
  ·rw[if_pos (.inr hf1)] at hR
   subst hR
   have hf2:(200:Int) < (x.frm.length:Int):=by omega
   go_enter Tryz.func99,Tryz.ntmps99
   go_wp2_with fail
   refine (spath_c x.path _ (by omega)).mono ?_
   rintro e w2 ⟨rfl,rfl⟩
   rw[hp2]
   go_wp2_with fail
   go_ret
   exact⟨rfl,(Calm.refl _).alloc _⟩
  ·rw[if_neg (by rw[hp2];simp;omega)] at hR
   have hf2:¬(200:Int) < (x.frm.length:Int):=by omega
   by_cases hk0:k=0
   ·subst hk0
    have hR0:R=0:=by rw[←hR];rfl
    subst hR0
    clear hR
    simp only[Nat.zero_mul,Nat.add_zero] at c0 c1 c2 c3 c4 c5 c6 c7 c8 c9 c10 c11
    go_enter Tryz.func99,Tryz.ntmps99
    go_wp2_with fail
    refine (spath_c x.path _ (by omega)).mono ?_
    rintro e w2 ⟨rfl,rfl⟩
    rw[hp2]
    go_wp2_with fail
    refine wp_region_calm (by kernel_rfl) (by kernel_rfl) ?_
    repeat (go_big_quiet_step (fail))
    refine wpQuiet_nil ?_
    intro w3 hc3
    go_wp2_with fail
    go_ret
    exact⟨rfl,((Calm.refl _).alloc _).trans hc3⟩
   ·obtain⟨q,hq,hql,hqc⟩:=HB.out (k - 1) (by omega)
    obtain⟨v,hv⟩:∃v,afterS q.path x.path=v:=⟨_,rfl⟩
    have hR0:(if v=false then 112 else 0)=R:=by
     rw[←hR]
     unfold bef
     rw[if_neg hk0,hq]
     simp only[Option.map_some,hv,Option.some.injEq]
    have HR0:=Lib.hid hR0
    obtain⟨w1,hw1⟩:∃w1,w1=w.alloc (.cells #[.string (bs x.path),.int .i64 x.act,.int .i64 x.tb,.bool x.tk,.bool x.tx,.bool x.te,.int .u64 x.sum,.int .i64 x.size,.int .i64 x.base,.string (bs x.frm),.int .i64 x.fn,.int .i64 x.fence] 32):=⟨_,rfl⟩
    obtain⟨P5,e5⟩:∃P5,w.heap.size=P5:=⟨_,rfl⟩
    have h5:CellsB w1 P5 [.string (bs x.path),.int .i64 x.act,.int .i64 x.tb,.bool x.tk,.bool x.tx,.bool x.te,.int .u64 x.sum,.int .i64 x.size,.int .i64 x.base,.string (bs x.frm),.int .i64 x.fn,.int .i64 x.fence]:=by
     rw[hw1,←e5]
     exact CellsB.new w _ _
    have hc1:Calm w w1:=by rw[hw1];exact (Calm.refl _).alloc _
    have HC1:=Lib.hid hc1
    have K1:=Lib.hid fun (p:CalmTo w1)=>safter_c q.path x.path p.w (by omega) (by omega)
    have K2:Hid (∀p:CalmTo w1,Calls Tryz.prog 135 #[.string (bs q.path),.string (bs x.path)] p.w fun e w'=>e=.returned (.bool v)∧Calm p.w w'):=fun p=>by
     have:=K1.out p
     rw[hv] at this
     exact this
    have g0:=fun p:CalmTo w1=>(hqc p.w (hc1.trans p.h)).1
    have g1:=fun p:CalmTo w1=>p.cell (h5.at_ 0 _ rfl) h5.lt
    have z0:decide ((0:Int) < (k:Int))=true:=by simp;omega
    have z0n:decide (0 < k)=true:=by simp;omega
    have z1:IntKind.i64.wrap ((k:Int) - 1)=(k:Int) - 1:=IntWalk.i64_in _ (by omega)
    have z2:(0:Int)≤(k:Int) - 1:=by omega
    have z3:((k:Int) - 1).toNat=k - 1:=by omega
    have z4:(k:Int) - 1 < (n:Int):=by omega
    clear hR hR0 hv hq hqc hk0 HB
    go_enter Tryz.func99,Tryz.ntmps99
    go_wp2_with fail
    refine (spath_c x.path _ (by omega)).mono ?_
    rintro e w2 ⟨rfl,rfl⟩
    rw[hp2]
    go_wp2_with fail
    rw[←hw1]
    try rw[e5]
    clear hw1 e5 c0 c1 c2 c3 c4 c5 c6 c7 c8 c9 c10 c11 hc1 h5 K1
    refine wp_region_calm (by kernel_rfl) (by kernel_rfl) ?_
    repeat (go_big_quiet_step ((go_at_call 135;with_reducible exact calmOf (K2.out _))))
    refine wpQuiet_nil ?_
    intro w3 hc3
    have HC3:=Lib.hid (HC1.out.trans hc3)
    clear hc3 g0 g1 z0 z0n z1 z2 z3 z4
    cases v with
    |true=>
     have hRz:Hid (0=R):=HR0.out
     go_wp2_with fail
     go_ret
     exact⟨ret_int hRz.out,HC3.out⟩
    |false=>
     have hRz:Hid (112=R):=HR0.out
     go_wp2_with fail
     go_ret
     exact⟨ret_int hRz.out,HC3.out⟩
def suitE:Option Str→List Edt→Int
 |_,[]=>0
 |b,x :: t=>if formE b x≠0 then formE b x else if mayS x.path=false then 217 else suitE (some x.path) t
theorem bef_succ {l:List Edt} {j:Nat} {x:Edt} (h:l[j]?=some x):bef l (j+1)=some x.path:=by
 unfold bef
 rw[if_neg (by omega),Nat.add_sub_cancel,h]
 rfl
theorem form_path {b:Option Str} {x:Edt} (h:formE b x=0):x.path.length≤200:=by
 unfold formE at h
 split at h
 ·exact absurd h (by decide)
 ·next h1=>
  have h2:pathS x.path=true:=by
   rcases hp:pathS x.path with _ | _
   ·exact absurd (.inl hp) h1
   ·rfl
  unfold pathS at h2
  simp at h2
  exact h2.1
set_option maxRecDepth 100000 in
set_option maxHeartbeats 8000000 in
theorem suit_c (x:Srv) (nm:Str) (l:List Edt) (EA:Option Addr) (n c:Nat) (w:World) (h:SrvAt w x) (hss:x.ss=mainS) (hX:ReadX encEd 12 w EA l) (hl:l.length=n) (hn:n≤64) (hs:∀y∈l,y.path.length≤1048576∧y.frm.length≤1048576) (hM:MaxL w) :
  Calls Tryz.prog 68 #[.pointer (some ⟨x.S,0,none⟩),.agg #[.string (bs nm),.string ⟨#[109,97,105,110]⟩,.slice none 0 0],.slice EA n c] w fun e w'=>e=.returned (.int .i64 (suitE none l))∧Calm w w':=by
 have KW:=Lib.hid fun (W:World) (hW:Calm w W)=>writer_c x nm W (h.calm hW) hss
 have HSt:Hid (∀W,Calm w W→StrmsU W x.SA mainS):=fun W hW=>by
  have:=(h.calm hW).str.now
  rw[hss] at this
  exact this
 have HX:=Lib.hid fun (W:World) (hW:Calm w W)=>hX.calm hW
 have HL:=Lib.hid hl
 have HS:=Lib.hid hs
 have HM:=Lib.hid hM
 obtain⟨R,hR⟩:∃R,suitE none l=R:=⟨_,rfl⟩
 have HR:=Lib.hid hR
 rw[hR]
 obtain⟨S,hS⟩:∃S,x.S=S:=⟨_,rfl⟩
 obtain⟨SA,hSA⟩:∃SA,x.SA=SA:=⟨_,rfl⟩
 obtain⟨sc,hsc⟩:∃sc,x.sc=sc:=⟨_,rfl⟩
 rw[hS,hSA,hsc] at KW
 rw[hSA] at HSt
 rw[hS]
 clear h hss hX hl hs hM hR hS hSA hsc
 go_enter Tryz.func68,Tryz.ntmps68
 go_wp2_with fail
 refine (KW.out _ ((Calm.refl w).alloc _)).mono ?_
 rintro e w2 ⟨⟨WA,wc,rfl,hE⟩,hc2⟩
 obtain⟨w3,hw3⟩:∃w3,w3=w2.alloc (.cells #[.slice SA 1 sc,.string (bs nm),.string ⟨#[109,97,105,110]⟩,.slice none 0 0,.slice WA 1 wc] 182):=⟨_,rfl⟩
 obtain⟨P7,e7⟩:∃P7,w2.heap.size=P7:=⟨_,rfl⟩
 have h7:CellsB w3 P7 [.slice SA 1 sc,.string (bs nm),.string ⟨#[109,97,105,110]⟩,.slice none 0 0,.slice WA 1 wc]:=by
  rw[hw3,←e7]
  exact CellsB.new w2 _ _
 have hc23:Calm w2 w3:=by rw[hw3];exact (Calm.refl _).alloc _
 have HW3:=Lib.hid hw3
 have HE7:=Lib.hid e7
 have H7:=Lib.hid h7
 have HEn:=Lib.hid (hE.calm hc23)
 have HC3:Hid (Calm w w3):=(((Calm.refl w).alloc _).trans hc2).trans hc23
 clear hw3 e7 h7 hc23 hE hc2
 go_wp2_with fail
 rw[←HW3.out]
 try simp only[HE7.out]
 go_loopw [16] (fun q wr=>∃j:Nat,j≤n∧q=.int .i64 j∧Hid (suitE (bef l j) (l.drop j)=R)∧Hid (Calm w3 wr)) (fun q _=>n - (intOf q).toNat)
 case atStart=>exact⟨0,Nat.zero_le _,rfl,HR.out,Calm.refl _⟩
 case round=>
  obtain⟨j,hj,rfl,HRj,HW⟩:=hrel
  obtain⟨wq,rfl⟩:∃wq,wq=wr:=⟨_,rfl⟩
  by_cases hlt:j < n
  ·obtain⟨b,o,x,rfl,hb,hx,hat⟩:=edits_get (HX.out wq (HC3.out.trans HW.out)) (k:=j) (by rw[HL.out];exact hlt)
   have c0:=hat.c0
   have c1:=hat.c1
   have c2:=hat.c2
   have c3:=hat.c3
   have c4:=hat.c4
   have c5:=hat.c5
   have c6:=hat.c6
   have c7:=hat.c7
   have c8:=hat.c8
   have c9:=hat.c9
   have c10:=hat.c10
   have c11:=hat.c11
   have HXx:=Lib.hid hx
   obtain⟨hp,hf⟩:=HS.out x (List.mem_of_getElem? hx)
   obtain⟨fe,hfe⟩:∃fe,formE (bef l j) x=fe:=⟨_,rfl⟩
   have hRx:Hid ((if fe≠0 then fe else if mayS x.path=false then 217 else suitE (some x.path) (l.drop (j+1)))=R):=by
    show _=_
    rw[←HRj.out,←hfe]
    have hd:l.drop j=x :: l.drop (j+1):=by
     rw[List.drop_eq_getElem_cons (List.getElem?_eq_some_iff.1 hx).1,(List.getElem?_eq_some_iff.1 hx).2]
    rw[hd]
    rfl
   have HFe:=Lib.hid hfe
   have KFo:Hid (∀W,Calm wq W→Calls Tryz.prog 99 #[.slice (some ⟨b,o,none⟩) n c,.int .i64 j] W fun e w'=>e=.returned (.int .i64 fe)∧Calm W w'):=fun W hW=>by
    have:=formed_c l x j n c (some ⟨b,o,none⟩) W (HX.out W (HC3.out.trans (HW.out.trans hW))) HL.out hn HXx.out HS.out
    rw[HFe.out] at this
    exact this
   obtain⟨P9,e9⟩:∃P9,wq.heap.size=P9:=⟨_,rfl⟩
   have HE9:=Lib.hid e9
   clear hat hx hfe e9
   go_wp2_with fail
   refine (KFo.out _ ((Calm.refl _).alloc _)).mono ?_
   rintro e w5 ⟨rfl,hc5⟩
   have h9:CellsB w5 P9 [.string (bs x.path),.int .i64 x.act,.int .i64 x.tb,.bool x.tk,.bool x.tx,.bool x.te,.int .u64 x.sum,.int .i64 x.size,.int .i64 x.base,.string (bs x.frm),.int .i64 x.fn,.int .i64 x.fence]:=by
    have:=(CellsB.new wq #[.string (bs x.path),.int .i64 x.act,.int .i64 x.tb,.bool x.tk,.bool x.tx,.bool x.te,.int .u64 x.sum,.int .i64 x.size,.int .i64 x.base,.string (bs x.frm),.int .i64 x.fn,.int .i64 x.fence] 32).calm hc5
    rwa [HE9.out] at this
   have HC5:Hid (Calm wq w5):=((Calm.refl _).alloc _).trans hc5
   have d9:=h9.at_ 0 _ rfl
   have l9:=h9.lt
   have h7':=H7.out.calm (HW.out.trans HC5.out)
   have y0:=h7'.at_ 0 _ rfl
   have y1:=h7'.at_ 1 _ rfl
   have y2:=h7'.at_ 2 _ rfl
   have y3:=h7'.at_ 3 _ rfl
   have y4:=h7'.at_ 4 _ rfl
   have l7:=h7'.lt
   clear hc5 h9 h7' c0 c1 c2 c3 c4 c5 c6 c7 c8 c9 c10 c11
   try rw[HE9.out]
   by_cases h0:fe=0
   ·subst h0
    have hpl:=form_path HFe.out
    obtain⟨v,hv⟩:∃v,mayS x.path=v:=⟨_,rfl⟩
    have KMy:Hid (Calls Tryz.prog 100 #[.agg #[.slice SA 1 sc,.string (bs nm),.string ⟨#[109,97,105,110]⟩,.slice none 0 0,.slice WA 1 wc],.string (bs x.path)] w5 fun e w'=>e=.returned (.bool v)∧Calm w5 w'):=by
     have hcw:=HC3.out.trans (HW.out.trans HC5.out)
     have:=may_c x.path nm SA WA sc wc w5 (HSt.out w5 hcw) (HEn.out.calm (HW.out.trans HC5.out)) (HM.out.calm hcw) (by omega)
     rw[hv] at this
     exact this
    have HV:=Lib.hid hv
    clear hv
    cases v with
    |true=>
     have HRy:Hid (suitE (bef l (j+1)) (l.drop (j+1))=R):=by
      show _=_
      rw[bef_succ HXx.out,←hRx.out,if_neg (by simp),HV.out,if_neg (by decide)]
     go_wp2_with fail
     refine KMy.out.mono ?_
     rintro e w6 ⟨rfl,hc6⟩
     have HC6:=Lib.hid (HW.out.trans (HC5.out.trans hc6))
     clear hc6 d9 y0 y1 y2 y3 y4
     go_wp2_with fail
     go_roundw
     case rel=>exact⟨j+1,by omega,by go_num,HRy.out,HC6.out⟩
     case measure=>simp[intOf];omega
    |false=>
     have HRy:Hid (217=R):=by
      show _=_
      rw[←hRx.out,if_neg (by simp),HV.out,if_pos rfl]
     go_wp2_with fail
     refine KMy.out.mono ?_
     rintro e w6 ⟨rfl,hc6⟩
     have HC6:=Lib.hid (HW.out.trans (HC5.out.trans hc6))
     clear hc6 d9 y0 y1 y2 y3 y4
     go_wp2_with fail
     go_ret
     exact⟨ret_int HRy.out,HC3.out.trans HC6.out⟩
   ·have h0':(fe != 0)=true:=by simpa using h0
    have HRy:Hid (fe=R):=by
     show _=_
     rw[←hRx.out,if_pos h0]
    go_wp2_with fail
    go_ret
    exact⟨ret_int HRy.out,HC3.out.trans (HW.out.trans HC5.out)⟩
  ·obtain rfl:j=n:=by omega
   have HRy:Hid (0=R):=by
    show _=_
    rw[←HRj.out,List.drop_of_length_le (by rw[HL.out];exact Nat.le_refl _)]
    rfl
   go_wp2_with fail
   go_ret
   exact⟨ret_int HRy.out,HC3.out.trans HW.out⟩
end Go.Proofs.YtcofdlipapnohaaGreatDoor
