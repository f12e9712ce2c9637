/- The law on shelved changes that are handed over answers true for every input and leaves its arguments as they were. The two listed tables hold what the library lays. -/
import Derived.Laws.StructEq
import Derived.Deep.RegionHeld3
import Derived.Deep.DeepCutAuto
import Derived.BigQuiet
import Derived.Test.YtcofdlipapnohaaGreatDoorProg
import Derived.ProofKit
import Derived.OpenShut
import Derived.SizedLaws
import Derived.Deep.Strs
import Derived.Deep.Slices
import Derived.ChangeSame
import Derived.Test.YtcofdlipapnohaaGreatDoorCards
import Derived.Test.YtcofdlipapnohaaGreatDoorTie
import Derived.WalkKit
import Derived.Deep.DeepHandedRow
import Derived.Carry
import Derived.Lib.LaidTab
import GoSem.PinnedTables
import Derived.Test.YtcofdlipapnohaaGreatDoorZEdRow
import Derived.Test.YtcofdlipapnohaaGreatDoorZTopAwk
import Derived.Test.YtcofdlipapnohaaGreatDoorZWalkA
set_option linter.unusedVariables false
set_option linter.unusedSimpArgs false
namespace Go.Proofs.YtcofdlipapnohaaGreatDoor
open Go Go.RowKit Sy
theorem eq_type (b:Int) (k x e:Bool) (W:World) (d:Nat):(Op.equalIn (d+1+1) 27 (.agg #[.int .i64 b,.bool k,.bool x,.bool e]) (.agg #[.int .i64 b,.bool k,.bool x,.bool e])).run Tryz.prog W=.ok true W:=by
 rw[run_equalIn_agg W (d+1) 27 _ _ (by kernel_rfl) (by kernel_rfl)]
 simp only[Program.fieldsOf,Tryz.underlying27]
 simp[go_sem,Tryz.underlying3,Tryz.underlying4]
theorem eq_cont (s z:Int) (W:World) (d:Nat):(Op.equalIn (d+1+1) 30 (.agg #[.int .u64 s,.int .i64 z]) (.agg #[.int .u64 s,.int .i64 z])).run Tryz.prog W=.ok true W:=by
 rw[run_equalIn_agg W (d+1) 30 _ _ (by kernel_rfl) (by kernel_rfl)]
 simp only[Program.fieldsOf,Tryz.underlying30]
 simp[go_sem,Tryz.underlying3,Tryz.underlying28]
theorem ed_eq (p:Str) (a b:Int) (k x e:Bool) (s z bs0:Int) (f:Str) (fn fe:Int) (W:World) :
  (Op.equalIn 10000 32 (.agg #[.string (bs p),.int .i64 a,.int .i64 b,.bool k,.bool x,.bool e,.int .u64 s,.int .i64 z,.int .i64 bs0,.string (bs f),.int .i64 fn,.int .i64 fe]) (.agg #[.string (bs p),.int .i64 a,.int .i64 b,.bool k,.bool x,.bool e,.int .u64 s,.int .i64 z,.int .i64 bs0,.string (bs f),.int .i64 fn,.int .i64 fe])).run Tryz.prog W=.ok true W:=by
 rw[show (10000:Nat)=9999+1 from rfl,run_equalIn_agg W 9999 32 _ _ (by kernel_rfl) (by kernel_rfl)]
 simp only[Program.fieldsOf,Tryz.underlying32]
 have h1:=fun W=>eq_type b k x e W 9997
 have h2:=fun W=>eq_cont s z W 9997
 simp only[Nat.reduceAdd] at h1 h2
 simp[go_sem,Tryz.underlying3,Tryz.underlying9,h1,h2]
theorem ed_guard:Tryz.prog.eqGuardType Tryz.prog.depth 32=false:=by kernel_rfl
theorem ed_neq (p:Str) (a b:Int) (k x e:Bool) (s z bs0:Int) (f:Str) (fn fe:Int) (W:World) :
  (binOp .neq 32 (.agg #[.string (bs p),.int .i64 a,.int .i64 b,.bool k,.bool x,.bool e,.int .u64 s,.int .i64 z,.int .i64 bs0,.string (bs f),.int .i64 fn,.int .i64 fe]) (.agg #[.string (bs p),.int .i64 a,.int .i64 b,.bool k,.bool x,.bool e,.int .u64 s,.int .i64 z,.int .i64 bs0,.string (bs f),.int .i64 fn,.int .i64 fe])).run Tryz.prog W=.ok (.bool false) W:=by
 rw[run_neq_struct]
 rw[show (10000:Nat)=9999+1 from rfl,run_equalIn_agg W 9999 32 _ _ (by kernel_rfl) (by kernel_rfl)]
 simp only[Program.fieldsOf,Tryz.underlying32]
 have h1:=fun W=>eq_type b k x e W 9997
 have h2:=fun W=>eq_cont s z W 9997
 simp only[Nat.reduceAdd] at h1 h2
 simp[go_sem,Tryz.underlying3,Tryz.underlying9,h1,h2]
def nmO (j:Nat):Str:=if j % 2=0 then annN else bobN
theorem nmO_even {j:Nat} (h:j % 2=0):nmO j=annN∧nmO (j+1)=bobN:=⟨if_pos h,if_neg (by omega)⟩
theorem nmO_odd {j:Nat} (h:j % 2=1):nmO j=bobN∧nmO (j+1)=annN:=⟨if_neg (by omega),if_pos (by omega)⟩
theorem nmO_bs (j:Nat):bsC [annN,bobN] (nmO j)=(((j % 2:Nat):Int),true):=by
 rcases Nat.mod_two_eq_zero_or_one j with h | h
 ·rw[(nmO_even h).1,h];exact bs_2a
 ·rw[(nmO_odd h).1,h];exact bs_2b
theorem nmO_at (j:Nat):[annN,bobN][j % 2]?=some (nmO j):=by
 rcases Nat.mod_two_eq_zero_or_one j with h | h
 ·rw[(nmO_even h).1,h];rfl
 ·rw[(nmO_odd h).1,h];rfl
theorem nmO_ne (j:Nat):(nmO j == nmO (j+1))=false:=by
 rcases Nat.mod_two_eq_zero_or_one j with h | h
 ·rw[(nmO_even h).1,(nmO_even h).2];decide
 ·rw[(nmO_odd h).1,(nmO_odd h).2];decide
theorem tmod_two (j:Nat):(j:Int).tmod 2=((j % 2:Nat):Int):=rfl
def shS (x:Srv) (PA:Option Addr) (pc:Nat) (text:Str) (EA:Option Addr) (ec:Nat) (l:List Edt) (j:Nat):Srv:={ x with tk:=1,PA:=PA,pc:=pc,ps:=[⟨1,nmO j,text,true,EA,ec,l⟩] }
structure SubF (S0:Srv) (ch:Chg) (W w':World) (r0 z:Int) (x':Srv):Prop where
 went:Went W S0 w' x'
 fr:Fr (fun i=>x'.F i∨i < W.heap.size) w' S0 x'
 or:(z≠0∧r0=0∧x'=S0)∨(z=0∧r0=1∧x'.S=S0.S∧x'.tk=S0.tk∧x'.hs=[ch]∧x'.ps=[]∧x'.ss=S0.ss∧x'.cs=S0.cs∧x'.rs.length≤64∧x'.D=S0.D)
def SubO (S0:Srv) (ch:Chg) (r0 z:Int) (x':Srv):Prop:=(z≠0∧r0=0∧x'=S0)∨(z=0∧r0=1∧x'.S=S0.S∧x'.tk=S0.tk∧x'.hs=[ch]∧x'.ps=[]∧x'.ss=S0.ss∧x'.cs=S0.cs∧x'.rs.length≤64∧x'.D=S0.D)
theorem SubF.merge {S0 x':Srv} {ch:Chg} {wb W w':World} {r0 z:Int} (h:SrvAt wb S0) (hc:Calm wb W) (hF:SubF S0 ch W w' r0 z x'):Went wb S0 w' x':=(Went.same h hc).trans hF.went
theorem SubF.box {S0 x':Srv} {ch:Chg} {wb W w':World} {r0 z:Int} (h:SrvAt wb S0) (hc:Calm wb W) (hb:wb.heap.size < W.heap.size) (hF:SubF S0 ch W w' r0 z x') (u0 u1 u2:Value):Went wb S0 (((w'.setCell ⟨wb.heap.size,0,none⟩ u0).setCell ⟨wb.heap.size,1,none⟩ u1).setCell ⟨wb.heap.size,2,none⟩ u2) x':=Went.boxed h hc (Nat.le_refl _) hb hF.went hF.fr u0 u1 u2
theorem subF_of {S0:Srv} {p:Pnd} {q:Edt→Bool} {W w':World} {e:Ending} (h:SrvAt W S0) (hp:S0.ps=[p]) (hl:p.l.length≤64) (hq:SubTo W S0 p q e w'):∃(r0 z:Int) (x':Srv),e=.returned (.tuple #[.agg #[.int .i64 r0,.int .i64 0,.int .i64 0],.int .i64 z])∧SubF S0 ⟨1,p.cl,p.tx,p.EA,p.ec,p.l⟩ W w' r0 z x':=by
 rcases hq with⟨h0,he,hw⟩ | ⟨h0,he,RA,rc,HA,hc,hw,hs1,hs2⟩
 ·exact⟨0,_,S0,he,hw,Fr.same,.inl ⟨h0,rfl,rfl⟩⟩
 ·refine⟨1,0,_,he,hw,⟨.inl ⟨rfl,rfl⟩,.inr (stays_low hs1 h.lt),.inr ⟨stays_low hs2 h.lt,fun ch hch=>?_⟩,(fun q hq=>by cases hq)⟩,.inr ⟨rfl,rfl,rfl,rfl,rfl,rfl,rfl,rfl,?_,rfl⟩⟩
  ·rw[List.mem_singleton.1 hch]
   exact⟨p,by rw[hp];exact List.mem_singleton.2 rfl,rfl,rfl⟩
  ·show (p.l.map (revR 1)).length≤64
   rw[List.length_map]
   exact hl
set_option maxRecDepth 200000 in
set_option maxHeartbeats 32000000 in
theorem topShelves_c (l:List Edt) (hands:Int) (text:Str) (A:Option Addr) (n c:Nat) (w:World) (hX:ReadX encEd 12 w A l) (hn:l.length=n) (hs:∀y∈l,y.path.length≤140737488351232∧y.frm.length≤140737488351232) (htx:text.length≤9223372036854775807) (hM:MaxL w) :
  Calls Tryz.prog 3 #[.slice A n c,.int .i64 hands,.string (bs text)] w fun e w'=>e=.returned (.bool true)∧Calm w w':=by
 have KA:=Lib.hid (awake21_c w hM)
 have HM:=Lib.hid hM
 have HX:=Lib.hid hX
 have HN:=Lib.hid hn
 have HSm:=Lib.hid hs
 have htsz:=bs_size text
 clear hM hX hn hs
 go_enter Tryz.func3,Tryz.ntmps3
 go_wp2_with fail
 refine KA.out.mono ?_
 rintro e w1 ⟨rfl,hc1⟩
 have KB:=Lib.hid (begun_c w1)
 have HC1:=Lib.hid hc1
 clear hc1
 go_wp2_with fail
 refine KB.out.mono ?_
 rintro e w2 ⟨⟨x,rfl,hs2,hst,hfr⟩,hc2⟩
 have HS2:=Lib.hid hs2
 have HSt:=Lib.hid hst
 have HFr:Hid (∀i,x.F i→w1.heap.size≤i):=hfr
 have HC2:Hid (Calm w w2∧Calm w1 w2):=⟨HC1.out.trans hc2,hc2⟩
 have HG:Hid (∀i,x.F i→0 < i):=fun i hi=>Nat.lt_of_lt_of_le HM.out.lt (Nat.le_trans HC1.out.size (hfr i hi))
 clear hs2 hst hfr hc2
 by_cases h1:10 < n
 ·have h1':(10:Int) < (n:Int):=by omega
  go_wp2_with fail
  go_ret
  exact⟨rfl,HC2.out.1⟩
 have h1':¬(10:Int) < (n:Int):=by omega
 by_cases h2:hands < 0
 ·go_wp2_with fail
  go_ret
  exact⟨rfl,HC2.out.1⟩
 by_cases h3:6 < hands
 ·go_wp2_with fail
  go_ret
  exact⟨rfl,HC2.out.1⟩
 by_cases h4:1024 < text.length
 ·have h4':(1024:Int) < (text.length:Int):=by omega
  go_wp2_with fail
  go_ret
  exact⟨rfl,HC2.out.1⟩
 have h4':¬(1024:Int) < (text.length:Int):=by omega
 go_wp2_with fail
 go_loopw [50] (fun i wr=>∃j:Nat,j≤n∧i=.int .i64 j∧Hid (Calm w2 wr∧∀k y,k < j→l[k]?=some y→y.path.length+y.frm.length≤300)) (fun i _=>n - (intOf i).toNat)
 case atStart=>exact⟨0,Nat.zero_le _,rfl,Calm.refl _,fun k y hk _=>by omega⟩
 case round=>
  obtain⟨j,hj,rfl,HJ⟩:=hrel
  by_cases h0:j < n
  ·obtain⟨b,o,y,rfl,hb,hy,hat⟩:=edits_get (HX.out.calm (HC2.out.1.trans HJ.out.1)) (k:=j) (by rw[HN.out];exact h0)
   have c0:=hat.c0
   have c1:=hat.c1
   have c2:=hat.c2
   have c3:=hat.c3
   have c4:=hat.c4
   have c5:=hat.c5
   have c6:=hat.c6
   have c7:=hat.c7
   have c8:=hat.c8
   have c9:=hat.c9
   have c10:=hat.c10
   have c11:=hat.c11
   have HY:=Lib.hid hy
   obtain⟨hsy1,hsy2⟩:=HSm.out y (List.mem_of_getElem? hy)
   have hz1:=bs_size y.path
   have hz2:=bs_size y.frm
   have hj1:(j:Int) < (n:Int):=by omega
   have hj0:(0:Int)≤(j:Int):=by omega
   clear hat hy
   by_cases hl:300 < y.path.length+y.frm.length
   ·have hl':(300:Int) < (y.path.length:Int)+(y.frm.length:Int):=by omega
    go_wp2_with fail
    go_ret
    exact⟨rfl,(HC2.out.1.trans HJ.out.1).alloc _⟩
   ·have hl':¬(300:Int) < (y.path.length:Int)+(y.frm.length:Int):=by omega
    have HL:=Lib.hid hl
    go_wp2_with fail
    go_roundw
    case rel=>
     refine⟨j+1,by omega,by go_num,HJ.out.1.alloc _,fun k z hk hz=>?_⟩
     by_cases e:k=j
     ·rw[e,HY.out] at hz
      obtain rfl:=Option.some.inj hz
      have:=HL.out
      omega
     ·exact HJ.out.2 k z (by omega) hz
    case measure=>simp[intOf];omega
  obtain rfl:j=n:=by omega
  have HS3:Hid (∀y∈l,y.path.length≤1048576∧y.frm.length≤1048576):=fun y hy=>by
   obtain⟨k,hk⟩:=List.getElem?_of_mem hy
   have h:=HJ.out.2 k y (by rw[←HN.out];exact (List.getElem?_eq_some_iff.1 hk).1) hk
   omega
  obtain⟨w3,rfl⟩:∃w3,w3=wr:=⟨_,rfl⟩
  have HC3:Hid (Calm w w3∧Calm w2 w3):=⟨HC2.out.1.trans HJ.out.1,HJ.out.1⟩
  have h10:j≤10:=by omega
  go_upto_region 15 with (fail)
  obtain⟨w4,hw4⟩:∃w4,w4=w3.alloc (.cells #[.string ⟨#[97,110,110]⟩,.string ⟨#[98,111,98]⟩] 9):=⟨_,rfl⟩
  obtain⟨NB,eN⟩:∃NB,w3.heap.size=NB:=⟨_,rfl⟩
  have hnb:CellsB w4 NB [.string (bs annN),.string (bs bobN)]:=by rw[hw4,←eN];exact CellsB.new w3 _ _
  have hc34:Calm w3 w4:=by rw[hw4];exact (Calm.refl _).alloc _
  have hs3:=HS2.out.calm HC3.out.2
  have HS4:=Lib.hid (hs3.calm hc34)
  have HC4:Hid (Calm w w4):=HC3.out.1.trans hc34
  have HNB:=Lib.hid hnb
  have HNo:Hid (¬x.F NB):=fun hf=>by have:=hs3.lt NB hf;omega
  have HFw:Hid (∀i,x.F i→w.heap.size≤i):=fun i hi=>Nat.le_trans HC1.out.size (HFr.out i hi)
  rw[←hw4]
  try simp only[eN]
  clear hw4 eN hnb hc34 hs3
  have hcs2:x.cs.length≤2:=by rw[HSt.out.cs];decide
  have HCs:=Lib.hid hcs2
  have KNew:Hid (Calls Tryz.prog 6 #[.pointer (some ⟨x.S,0,none⟩),cmV { cmd0 with kind:=3,cl:=annN,tx:=text }] w4 fun e w'=>e=.returned (.tuple #[.agg #[.int .i64 1,.int .i64 0,.int .i64 0],.int .i64 0])∧∃PA pc,Went w4 x w' { x with tk:=1,PA:=PA,pc:=pc,ps:=[⟨1,annN,text,false,none,0,[]⟩] }):=by
   have:=cmNew x { cmd0 with kind:=3,cl:=annN,tx:=text } w4 HS4.out rfl hcs2 (by rw[HSt.out.cs];exact congrArg Prod.snd bs_2a) HSt.out.ps (by rw[HSt.out.tk];decide) (by show text.length≤1024;omega)
   unfold newPn at this
   rw[HSt.out.tk] at this
   exact this
  clear hcs2
  go_wp2_with fail
  refine KNew.out.mono ?_
  rintro e w5 ⟨rfl,PA,pc,hw5⟩
  obtain⟨w6,hw6⟩:∃w6,w6=w5.alloc (.cells #[.int .i64 1,.int .i64 0,.int .i64 0] 35):=⟨_,rfl⟩
  obtain⟨RB,eR⟩:∃RB,w5.heap.size=RB:=⟨_,rfl⟩
  have hrb:CellsB w6 RB [.int .i64 1,.int .i64 0,.int .i64 0]:=by rw[hw6,←eR];exact CellsB.new w5 _ _
  have hoffR:¬({ x with tk:=1,PA:=PA,pc:=pc,ps:=[⟨1,annN,text,false,none,0,[]⟩] }:Srv).F RB:=fun hf=>by have:=hw5.at_.lt RB hf;omega
  have hw6':Went w4 x w6 { x with tk:=1,PA:=PA,pc:=pc,ps:=[⟨1,annN,text,false,none,0,[]⟩] }:=by rw[hw6];exact hw5.calm ((Calm.refl _).alloc _)
  have HW6:=Lib.hid hw6'
  have HRB:=Lib.hid hrb
  have HRo:=Lib.hid hoffR
  have HNB6:=Lib.hid (HNB.out.kp hw6'.kp HNo.out)
  have HN6:Hid (¬({ x with tk:=1,PA:=PA,pc:=pc,ps:=[⟨1,annN,text,false,none,0,[]⟩] }:Srv).F NB):=hw6'.off (HNB.out.lt) HNo.out
  have HC6:Hid (Calm w w6):=Kp.calm' HC4.out hw6'.kp HFw.out
  have HF6:Hid (∀i,({ x with tk:=1,PA:=PA,pc:=pc,ps:=[⟨1,annN,text,false,none,0,[]⟩] }:Srv).F i→w.heap.size≤i):=fun i hi=>(hw6'.far i hi).elim (HFw.out i) (fun h=>Nat.le_trans HC4.out.size h)
  have r0:=hrb.at_ 0 _ rfl
  have lr:=hrb.lt
  clear hw5 hrb hoffR hw6'
  go_upto_region 18 with (fail)
  rw[←hw6]
  try simp only[eR]
  clear hw6 eR
  have KPut:=Lib.hid (cmPut { x with tk:=1,PA:=PA,pc:=pc,ps:=[⟨1,annN,text,false,none,0,[]⟩] } ⟨1,annN,text,false,none,0,[]⟩ { cmd0 with kind:=4,cl:=annN,num:=1,EA:=A,en:=j,ec:=c } l 0 w6 HW6.out.at_ rfl HSt.out.ss rfl rfl rfl rfl HCs.out (by rw[show ({ x with tk:=1,PA:=PA,pc:=pc,ps:=[⟨1,annN,text,false,none,0,[]⟩] }:Srv).cs=[annN,bobN] from HSt.out.cs];exact bs_2a) (by rw[show ({ x with tk:=1,PA:=PA,pc:=pc,ps:=[⟨1,annN,text,false,none,0,[]⟩] }:Srv).cs=[annN,bobN] from HSt.out.cs];rfl)
   (HX.out.calm HC6.out) HN.out (show j≤64 by omega) HS3.out (HM.out.calm HC6.out))
  go_wp2_with fail
  refine KPut.out.mono ?_
  rintro e w7 hq
  rcases hq with⟨h0,rfl,hw7⟩ | ⟨_,rfl,EA,ec,hw7⟩
  ·obtain⟨se,hse⟩:∃se,suitE none l=se:=⟨_,rfl⟩
   rw[hse] at h0 ⊢
   have h0':(se != 0)=true:=by simpa using h0
   have HC7:Hid (Calm w w7):=Kp.calm' HC6.out hw7.kp HF6.out
   clear hw7 hse
   go_wp2_with fail
   go_ret
   exact⟨rfl,HC7.out⟩
  have HW7:Hid (Went w6 { x with tk:=1,PA:=PA,pc:=pc,ps:=[⟨1,annN,text,false,none,0,[]⟩] } w7 { x with tk:=1,PA:=PA,pc:=pc,ps:=[⟨1,annN,text,false,EA,ec,l⟩] }):=hw7
  have HC7:Hid (Calm w w7):=Kp.calm' HC6.out hw7.kp HF6.out
  have hrb7:=HRB.out.kp hw7.kp HRo.out
  have r0:=hrb7.at_ 0 _ rfl
  have lr:=hrb7.lt
  clear hw7 hrb7
  by_cases hl0:j=0
  ·have hl0':((j:Int) == 0)=true:=by simpa using hl0
   have HL0:=Lib.hid hl0
   clear hl0
   go_wp2_with fail
   go_ret
   exact⟨rfl,HC7.out⟩
  have hl0':((j:Int) == 0)=false:=by rw[beq_eq_false_iff_ne];omega
  have HLn:Hid (l≠[]):=fun e=>hl0 (by rw[←HN.out,e];rfl)
  have KSh:=Lib.hid (cmShelve { x with tk:=1,PA:=PA,pc:=pc,ps:=[⟨1,annN,text,false,EA,ec,l⟩] } ⟨1,annN,text,false,EA,ec,l⟩ { cmd0 with kind:=5,cl:=annN,num:=1 } w7 HW7.out.at_ rfl HCs.out (by rw[show ({ x with tk:=1,PA:=PA,pc:=pc,ps:=[⟨1,annN,text,false,EA,ec,l⟩] }:Srv).cs=[annN,bobN] from HSt.out.cs];exact congrArg Prod.snd bs_2a) rfl rfl rfl rfl HLn.out)
  go_wp2_with fail
  refine KSh.out.mono ?_
  rintro e w8 ⟨rfl,hw8⟩
  have HW8:Hid (Went w6 { x with tk:=1,PA:=PA,pc:=pc,ps:=[⟨1,annN,text,false,none,0,[]⟩] } w8 (shS x PA pc text EA ec l 0)):=HW7.out.trans hw8
  clear hw8 r0 lr hl0 hl0'
  go_wp2_with fail
  go_loopw [13] (fun i wr=>∃m:Nat,(m:Int)≤hands∧i=.int .i64 m∧Hid (Went w6 { x with tk:=1,PA:=PA,pc:=pc,ps:=[⟨1,annN,text,false,none,0,[]⟩] } wr (shS x PA pc text EA ec l m))) (fun i _=>hands.toNat - (intOf i).toNat)
  case atStart=>exact⟨0,by omega,rfl,HW8.out⟩
  case round=>
   obtain⟨m,hm,rfl,HJ⟩:=hrel
   obtain⟨wq,rfl⟩:∃wq,wq=wr:=⟨_,rfl⟩
   have hcsS:(shS x PA pc text EA ec l m).cs=[annN,bobN]:=HSt.out.cs
   have HcsS:=Lib.hid hcsS
   clear hcsS
   by_cases hmh:(m:Int) < hands
   ·have hnb:=HNB6.out.kp HJ.out.kp HN6.out
    have n0:=hnb.at_ 0 _ rfl
    have n1:=hnb.at_ 1 _ rfl
    have ln:=hnb.lt
    clear hnb
    go_upto_region 27 with (fail)
    go_cut [14,15] (fun a b wx=>a=.string (bs (nmO m))∧b=.string (bs (nmO (m+1)))∧Hid (Calm wq wx))
    case first=>
     rcases Nat.mod_two_eq_zero_or_one m with hp | hp
     ·have ht:((m:Int)).tmod 2=0:=by rw[tmod_two,hp];rfl
      have HE:=Lib.hid (nmO_even hp)
      clear hp
      go_quiet (fail)
      go_wp2_with fail
      go_meet
      case rel=>exact⟨by rw[HE.out.1],by rw[HE.out.2],(Calm.refl _).drewN _⟩
     ·have ht:((m:Int)).tmod 2=1:=by rw[tmod_two,hp];rfl
      have HE:=Lib.hid (nmO_odd hp)
      clear hp
      go_quiet (fail)
      go_wp2_with fail
      go_meet
      case rel=>exact⟨by rw[HE.out.1],by rw[HE.out.2],(Calm.refl _).drewN _⟩
    case rest=>
     obtain⟨rfl,rfl,hcq⟩:=hcut
     obtain⟨wa,rfl⟩:∃wa,wa=wc:=⟨_,rfl⟩
     have HJa:=Lib.hid (HJ.out.calm hcq.out)
     have hrb:=HRB.out.kp HJa.out.kp HRo.out
     have HRa:=Lib.hid hrb
     have r0:=hrb.at_ 0 _ rfl
     have lr:=hrb.lt
     have KSu:=Lib.hid fun (W:World) (hW:Calm wa W)=>doNo_c (shS x PA pc text EA ec l m) { cmd0 with kind:=8,cl:=nmO (m+1),num:=1 } ⟨1,nmO m,text,true,EA,ec,l⟩ 8 [0,3] 30 W (HJa.out.at_.calm hW) (by decide) rfl HCs.out (by rw[HcsS.out];exact congrArg Prod.snd (nmO_bs (m+1))) (by decide) rfl rfl (nmO_ne m)
     have KDr:=Lib.hid fun (W:World) (hW:Calm wa W)=>doNo_c (shS x PA pc text EA ec l m) { cmd0 with kind:=7,cl:=nmO (m+1),num:=1 } ⟨1,nmO m,text,true,EA,ec,l⟩ 7 [0,3] 29 W (HJa.out.at_.calm hW) (by decide) rfl HCs.out (by rw[HcsS.out];exact congrArg Prod.snd (nmO_bs (m+1))) (by decide) rfl rfl (nmO_ne m)
     have KHa:=Lib.hid fun (W:World) (hW:Calm wa W)=>cmHand (shS x PA pc text EA ec l m) ⟨1,nmO m,text,true,EA,ec,l⟩ { cmd0 with kind:=6,cl:=nmO m,nm:=nmO (m+1),num:=1 } W (HJa.out.at_.calm hW) rfl HCs.out (by rw[HcsS.out];exact congrArg Prod.snd (nmO_bs m)) rfl rfl rfl rfl (by rw[HcsS.out];exact congrArg Prod.snd (nmO_bs (m+1)))
     clear n0 n1 ln hcq hrb
     go_wp2_with fail
     refine (KSu.out wa (Calm.refl _)).mono ?_
     rintro e wb ⟨rfl,hcb⟩
     have HCb:=Lib.hid hcb
     have hrb:=HRa.out.calm hcb
     have r0:=hrb.at_ 0 _ rfl
     have lr:=hrb.lt
     clear hcb hrb
     go_wp2_with fail
     refine (KDr.out _ (HCb.out.alloc _)).mono ?_
     rintro e wd ⟨rfl,hcd⟩
     have HCd:Hid (Calm wa wd):=(HCb.out.alloc _).trans hcd
     have hrb:=HRa.out.calm HCd.out
     have r0:=hrb.at_ 0 _ rfl
     have lr:=hrb.lt
     clear hcd hrb
     go_wp2_with fail
     refine (KHa.out _ (HCd.out.alloc _)).mono ?_
     rintro e wh ⟨rfl,hwh⟩
     have HJh:Hid (Went w6 { x with tk:=1,PA:=PA,pc:=pc,ps:=[⟨1,annN,text,false,none,0,[]⟩] } wh (shS x PA pc text EA ec l (m+1))):=(HJa.out.calm (HCd.out.alloc _)).trans hwh
     clear hwh r0 lr
     go_wp2_with fail
     go_roundw
     case rel=>exact⟨m+1,by omega,by go_num,HJh.out.calm ((Calm.refl _).alloc _)⟩
     case measure=>simp[intOf];omega
   ·obtain rfl:hands=(m:Int):=by omega
    have KSt:Hid (∀W,Calm wq W→Calls Tryz.prog 7 #[.pointer (some ⟨x.S,0,none⟩)] W fun e w'=>(∃ln,StEnd W 0 1 2 0 0 1 ln [] [(⟨1,nmO m,text,true,EA,ec,l⟩:Pnd)] e w')∧Calm W w'):=fun W hW=>by
     have h:=state_c (shS x PA pc text EA ec l m) W (HJ.out.at_.calm hW) HSt.out.ss (by rw[HcsS.out];decide) (by rw[show (shS x PA pc text EA ec l m).rs=[] from HSt.out.rs.1];decide) (by rw[show (shS x PA pc text EA ec l m).hs=[] from HSt.out.hs.1];decide) (Nat.le_refl _) (fun p hp=>by rw[List.mem_singleton.1 hp];show l.length≤64;have:=HN.out;omega) (fun c hc=>by rw[show (shS x PA pc text EA ec l m).hs=[] from HSt.out.hs.1] at hc;cases hc) (by rw[show (shS x PA pc text EA ec l m).D=.map [] from HSt.out.D];exact dEnt_nil) (by rw[show (shS x PA pc text EA ec l m).D=.map [] from HSt.out.D];decide)
     rw[HcsS.out,show (shS x PA pc text EA ec l m).rs=[] from HSt.out.rs.1,show (shS x PA pc text EA ec l m).hs=[] from HSt.out.hs.1] at h
     exact h
    go_wp2_with fail
    refine (KSt.out wq (Calm.refl _)).mono ?_
    rintro e ws ⟨⟨ln,B2,d2,B3,d3,B4,d4,B6,d6,B7,d7,B8,d8,rfl,_,_⟩,hcs1⟩
    obtain⟨wb,hwb⟩:∃wb,wb=ws.alloc (.cells #[.int .i64 0,.int .i64 1,.slice B2 1 d2,.slice B3 2 d3,.slice B4 0 d4,.slice none 0 0,.slice B6 0 d6,.slice B7 1 d7,.slice B8 ln d8] 55):=⟨_,rfl⟩
    obtain⟨BB,eB⟩:∃BB,ws.heap.size=BB:=⟨_,rfl⟩
    have hbb:CellsB wb BB [.int .i64 0,.int .i64 1,.slice B2 1 d2,.slice B3 2 d3,.slice B4 0 d4,.slice none 0 0,.slice B6 0 d6,.slice B7 1 d7,.slice B8 ln d8]:=by rw[hwb,←eB];exact CellsB.new ws _ _
    have hcb:Calm wq wb:=by
     rw[hwb]
     exact hcs1.alloc _
    have HWb:Hid (Went w6 { x with tk:=1,PA:=PA,pc:=pc,ps:=[⟨1,annN,text,false,none,0,[]⟩] } wb (shS x PA pc text EA ec l m)):=HJ.out.calm hcb
    have HBB:=Lib.hid hbb
    have HCb:Hid (Calm w wb∧Calm wq wb):=⟨Kp.calm' HC6.out HWb.out.kp HF6.out,hcb⟩
    have HBo:Hid (¬(shS x PA pc text EA ec l m).F BB):=fun hf=>by
     have h1:=HJ.out.at_.lt BB hf
     have h2:=hcs1.size
     omega
    have HNo2:Hid (¬(shS x PA pc text EA ec l m).F NB):=HWb.out.off (HNB6.out.lt) HN6.out
    have HRo2:Hid (¬(shS x PA pc text EA ec l m).F RB):=HWb.out.off (HRB.out.lt) HRo.out
    go_upto_region 34 with (fail)
    rw[←hwb]
    try simp only[eB]
    clear hwb eB hbb hcb hcs1
    obtain⟨r,hr⟩:∃r,m % 2=r:=⟨_,rfl⟩
    have hr2:r < 2:=by omega
    have ht:((m:Int)).tmod 2=(r:Int):=by rw[tmod_two,hr]
    have hr0:(0:Int)≤(r:Int):=by omega
    have hr1:(r:Int) < 2:=by omega
    have HNr:Hid (∀W,Kp (shS x PA pc text EA ec l m).F wb W→W.cell? ⟨NB,r,none⟩=some (.string (bs (nmO m)))∧NB < W.heap.size):=fun W hW=>by
     have h:=(HNB6.out.kp HWb.out.kp HN6.out).kp hW HNo2.out
     refine⟨h.at_ r _ ?_,h.lt⟩
     have h2:=nmO_at m
     rw[hr] at h2
     match r,h2 with
     |0,h2=>rw[←Option.some.inj h2];rfl
     |1,h2=>rw[←Option.some.inj h2];rfl
    have HRr:Hid (∀W,Kp (shS x PA pc text EA ec l m).F wb W→W.cell? ⟨RB,0,none⟩=some (.int .i64 1)∧RB < W.heap.size):=fun W hW=>by
     have h:=(HRB.out.kp HWb.out.kp HRo.out).kp hW HRo2.out
     exact⟨h.at_ 0 _ rfl,h.lt⟩
    have HSX:Hid (∀W,Kp (shS x PA pc text EA ec l m).F wb W→W.cell? ⟨NB,r,none⟩=some (.string (bs (nmO m)))∧W.cell? ⟨RB,0,none⟩=some (.int .i64 1)):=fun W hW=>⟨(HNr.out W hW).1,(HRr.out W hW).1⟩
    have HBi:Hid (bsC (shS x PA pc text EA ec l m).cs (nmO m)=((r:Int),true)∧(shS x PA pc text EA ec l m).cs[r]?=some (nmO m)):=by
     rw[←hr]
     show bsC (shS x PA pc text EA ec l m).cs (nmO m)=(((m % 2:Nat):Int),true)∧(shS x PA pc text EA ec l m).cs[m % 2]?=some (nmO m)
     rw[HcsS.out]
     exact⟨nmO_bs m,nmO_at m⟩
    have KSu:Hid (∀W,Calm wb W→Calls Tryz.prog 6 #[.pointer (some ⟨x.S,0,none⟩),cmV { cmd0 with kind:=8,cl:=nmO m,num:=1 }] W fun e w'=>∃(r0 z:Int) (x':Srv),e=.returned (.tuple #[.agg #[.int .i64 r0,.int .i64 0,.int .i64 0],.int .i64 z])∧SubF (shS x PA pc text EA ec l m) ⟨1,nmO m,text,EA,ec,l⟩ W w' r0 z x'):=fun W hW=>by
     have h:=HWb.out.at_.calm hW
     refine (cmSubmit (shS x PA pc text EA ec l m) (⟨1,nmO m,text,true,EA,ec,l⟩:Pnd) { cmd0 with kind:=8,cl:=nmO m,num:=1 } (fun _=>false) r W h rfl HSt.out.ss rfl rfl rfl HCs.out HBi.out.1 HBi.out.2 HSt.out.rs.1 HSt.out.rs.2.1 HSt.out.rs.2.2 HSt.out.hs.1 HSt.out.hs.2.1 HSt.out.hs.2.2 (by show l.length≤64;have:=HN.out;omega) HS3.out (HM.out.calm (HCb.out.1.trans hW))
      (fun y hy _ W' hW'=>holds_no x.T x.M y.path (nmO m) y.fence W' (h.calm hW').t (fun W2 hW2=>by
       have hm2:=((h.calm hW').calm hW2).m
       rw[show (shS x PA pc text EA ec l m).D=.map [] from HSt.out.D] at hm2
       exact lk_no hm2 y.path (HS3.out y hy).1))).mono fun e w' hq=>?_
     exact subF_of h rfl (by show l.length≤64;have:=HN.out;omega) hq
    obtain⟨n0,ln0⟩:=HNr.out wb (Kp.refl _ _)
    obtain⟨r0c,lr0⟩:=HRr.out wb (Kp.refl _ _)
    have HSb:=Lib.hid HWb.out.at_
    have HNF:Hid (¬(shS x PA pc text EA ec l m).F wb.heap.size):=fun hf=>by have:=HSb.out.lt _ hf;omega
    clear hr
    go_cut [12,23] (fun zv a wx=>∃B r0 z x',a=.pointer (some ⟨B,0,none⟩)∧zv=.int .i64 z∧Hid (CellsB wx B [.int .i64 r0,.int .i64 0,.int .i64 0]∧Went wb (shS x PA pc text EA ec l m) wx x'∧SubO (shS x PA pc text EA ec l m) ⟨1,nmO m,text,EA,ec,l⟩ r0 z x'))
    case first=>
     clear KA KB HM HX HN HSm HC1 HC2 HS2 HSt HFr HG HJ HS3 HC3 HS4 HC4 HNB HNo HFw HCs KNew HW6 HRB HRo HNB6 HN6 HC6 HF6 KPut HW7 HC7 HLn KSh HW8 HcsS KSt HBB HCb HBo HNo2 HRo2 HNr HRr HBi HWb
     go_region_held3 (fun W=>W.cell? ⟨NB,r,none⟩=some (.string (bs (nmO m)))∧W.cell? ⟨RB,0,none⟩=some (.int .i64 1))
      (first
       |with_reducible exact HSX.out _ (Kp.set3 hkx (.inr (Nat.le_refl _)) _ _ _)
       |with_reducible exact HSX.out _ (Kp.set3 (Kp.alloc hkx _) (.inr hkx.size) _ _ _)
       |with_reducible exact HSX.out _ (Kp.refl _ _)
       |with_reducible exact HSX.out _ ((Below.drew (Calm.refl _)).kp _)
       |with_reducible exact HSX.out _ ((Below.drew ((Calm.refl _).alloc _)).kp _)
       |with_reducible exact HSX.out _ (((Calm.refl _).alloc _).kp _)
       |with_reducible exact HSX.out _ hkx
       |with_reducible exact HSX.out _ (Kp.alloc hkx _)
       |go_keep)
      (first
       |(go_at_call 6;refine (KSu.out _ (by first | exact Calm.refl _ | exact Below.drew (Calm.refl _) | exact (Calm.refl _).alloc _ | exact (Below.drew (Calm.refl _)).alloc _ | exact Below.drew ((Calm.refl _).alloc _))).mono ?_;rintro e w5 ⟨r0,z,x',rfl,hF⟩;have hwx:Went wb (shS x PA pc text EA ec l m) w5 x':=SubF.merge HSb.out (by first | exact Calm.refl _ | exact Below.drew (Calm.refl _) | exact (Calm.refl _).alloc _ | exact (Below.drew (Calm.refl _)).alloc _ | exact Below.drew ((Calm.refl _).alloc _)) hF;have hkx:Kp (shS x PA pc text EA ec l m).F wb w5:=hwx.kp;have HFh:=Lib.hid hF;have HOr:Hid (SubO (shS x PA pc text EA ec l m) ⟨1,nmO m,text,EA,ec,l⟩ r0 z x'):=hF.or;(first | (with_reducible have hZ5:CellsB w5 wb.heap.size [.int .i64 0,.int .i64 0,.int .i64 0]:=CellsB.kp (by first | with_reducible exact CellsB.new wb _ _ | with_reducible exact (CellsB.new wb _ _).calm (Below.drew (Calm.refl _)) | with_reducible exact CellsB.new wb.drew _ _) hF.went.kp HNF.out;have f0:=hZ5.fz 0;have f1:=hZ5.fz 1;have f2:=hZ5.fz 2;have z0:=hZ5.at_ 0 _ rfl;have z1:=hZ5.at_ 1 _ rfl;have z2:=hZ5.at_ 2 _ rfl) | skip);have HWx:=Lib.hid hwx;clear hF hwx))
     all_goals
      go_wp2_with fail
      go_meet
      case rel=>first
       |(with_reducible refine⟨_,r0,z,x',rfl,rfl,Lib.hid ⟨CellsB.new w5 _ _,HWx.out.calm ((Calm.refl _).alloc _),HOr.out⟩⟩)
       |exact⟨wb.heap.size,r0,z,x',rfl,rfl,Lib.hid ⟨((hZ5.setc 0 _ (by simp)).setc 1 _ (by simp)).setc 2 _ (by simp),SubF.box HSb.out (by first | exact (Calm.refl _).alloc _ | exact (Below.drew (Calm.refl _)).alloc _ | exact Below.drew ((Calm.refl _).alloc _)) (by first | (simp;done) | exact Nat.lt_succ_self _) HFh.out _ _ _,HOr.out⟩⟩
    case rest=>
     obtain⟨B,r0,z,x',rfl,rfl,HQ⟩:=hcut
     obtain⟨wt,rfl⟩:∃wt,wt=wc:=⟨_,rfl⟩
     have HCt:Hid (Calm w wt):=Kp.calm' HC6.out (HWb.out.trans HQ.out.2.1).kp HF6.out
     have HNt:=Lib.hid (HNr.out wt HQ.out.2.1.kp)
     have HBt:=Lib.hid (HBB.out.kp HQ.out.2.1.kp HBo.out)
     have HRl:=Lib.hid (And.intro hr2 (And.intro hr0 hr1))
     clear n0 ln0 r0c lr0 KSu HNr HRr HSX HBi HSb HNF
     rcases HQ.out.2.2 with⟨hz,h0,hx⟩ | ⟨hz,h0,hxS,hxt,hxh,hxp,hxs,hxc,hxr,hxD⟩
     ·subst hx
      have hz':(z != 0)=true:=by simpa using hz
      have KSt2:Hid (∀W,Calm wt W→Calls Tryz.prog 7 #[.pointer (some ⟨x.S,0,none⟩)] W fun e w'=>(∃ln,StEnd W 0 1 2 0 0 1 ln [] [(⟨1,nmO m,text,true,EA,ec,l⟩:Pnd)] e w')∧Calm W w'):=fun W hW=>by
       have h:=state_c (shS x PA pc text EA ec l m) W (HQ.out.2.1.at_.calm hW) HSt.out.ss (by rw[HcsS.out];decide) (by rw[show (shS x PA pc text EA ec l m).rs=[] from HSt.out.rs.1];decide) (by rw[show (shS x PA pc text EA ec l m).hs=[] from HSt.out.hs.1];decide) (Nat.le_refl _) (fun p hp=>by rw[List.mem_singleton.1 hp];show l.length≤64;have:=HN.out;omega) (fun c hc=>by rw[show (shS x PA pc text EA ec l m).hs=[] from HSt.out.hs.1] at hc;cases hc) (by rw[show (shS x PA pc text EA ec l m).D=.map [] from HSt.out.D];exact dEnt_nil) (by rw[show (shS x PA pc text EA ec l m).D=.map [] from HSt.out.D];decide)
       rw[HcsS.out,show (shS x PA pc text EA ec l m).rs=[] from HSt.out.rs.1,show (shS x PA pc text EA ec l m).hs=[] from HSt.out.hs.1] at h
       exact h
      clear hz
      go_wp2_with fail
      refine (KSt2.out wt (Calm.refl _)).mono ?_
      rintro e wu ⟨⟨lm,B2',d2',B3',d3',B4',d4',B6',d6',B7',d7',B8',d8',rfl,_,hpn⟩,hcu⟩
      obtain⟨ps',hp1,hp2,hp3⟩:=hpn
      obtain⟨y,rfl⟩:∃y,ps'=[y]:=by
       match ps',hp1 with
       |[y],_=>exact⟨y,rfl⟩
      have hy2:=(hp3 0 (⟨1,nmO m,text,true,EA,ec,l⟩:Pnd) y rfl rfl).1
      have hyc:y.cl=nmO m:=by rw[hy2]
      obtain⟨pb,po,rfl,hpb,hpk⟩:=hp2.now (by simp)
      have hcl:=hpk 0 y rfl 1 _ rfl
      rw[hyc] at hcl
      obtain⟨wv,hwv⟩:∃wv,wv=wu.alloc (.cells #[.int .i64 0,.int .i64 1,.slice B2' 1 d2',.slice B3' 2 d3',.slice B4' 0 d4',.slice none 0 0,.slice B6' 0 d6',.slice (some ⟨pb,po,none⟩) 1 d7',.slice B8' lm d8'] 55):=⟨_,rfl⟩
      obtain⟨AB,eA⟩:∃AB,wu.heap.size=AB:=⟨_,rfl⟩
      have hab:CellsB wv AB [.int .i64 0,.int .i64 1,.slice B2' 1 d2',.slice B3' 2 d3',.slice B4' 0 d4',.slice none 0 0,.slice B6' 0 d6',.slice (some ⟨pb,po,none⟩) 1 d7',.slice B8' lm d8']:=by rw[hwv,←eA];exact CellsB.new wu _ _
      have hcv:Calm wt wv:=by
       rw[hwv]
       exact hcu.alloc _
      have hclv:wv.cell? ⟨pb,po+1,none⟩=some (.string (bs (nmO m))):=by
       rw[hwv]
       have h:=Calm.at_ ((Calm.refl wu).alloc (.cells #[.int .i64 0,.int .i64 1,.slice B2' 1 d2',.slice B3' 2 d3',.slice B4' 0 d4',.slice none 0 0,.slice B6' 0 d6',.slice (some ⟨pb,po,none⟩) 1 d7',.slice B8' lm d8'] 55)) hcl hpb
       simpa using h
      have hpbv:pb < wv.heap.size:=by rw[hwv];exact Nat.lt_of_lt_of_le hpb ((Calm.refl wu).alloc _).size
      have n0:=Calm.at_ hcv HNt.out.1 HNt.out.2
      have ln0:NB < wv.heap.size:=Nat.lt_of_lt_of_le HNt.out.2 hcv.size
      have b6:=(HBt.out.calm hcv).at_ 6 _ rfl
      have lb:=(HBt.out.calm hcv).lt
      have a6:=hab.at_ 6 _ rfl
      have a7:=hab.at_ 7 _ rfl
      have la:=hab.lt
      have HCv:Hid (Calm w wv):=HCt.out.trans hcv
      clear hp1 hp2 hp3 hy2 hyc hpk hcl hcu hcv hab hpb
      go_upto_region 36 with (fail)
      rw[←hwv]
      try simp only[eA]
      clear hwv eA
      go_wp2_with fail
      go_quiet (fail)
      all_goals
       go_wp2_with fail
       go_ret
       exact⟨rfl,HCv.out.drewN _⟩
     ·subst hz
      subst h0
      have hxS':x'.S=x.S:=hxS
      have hxt':x'.tk=1:=hxt
      have hxc':x'.cs=[annN,bobN]:=hxc.trans HcsS.out
      obtain⟨rn,hrn⟩:∃rn,x'.rs.length=rn:=⟨_,rfl⟩
      have KSt3:Hid (∀W,Calm wt W→Calls Tryz.prog 7 #[.pointer (some ⟨x.S,0,none⟩)] W fun e w'=>(∃ln,StEnd W 0 1 2 rn 1 0 ln [(⟨1,nmO m,text,EA,ec,l⟩:Chg)] [] e w')∧Calm W w'):=fun W hW=>by
       have h:=state_c x' W (HQ.out.2.1.at_.calm hW) (hxs.trans HSt.out.ss) (by rw[hxc'];decide) (by omega) (by rw[hxh];exact Nat.le_refl _) (by rw[hxp];decide) (fun p hp=>by rw[hxp] at hp;cases hp) (fun c hc=>by rw[hxh] at hc;rw[List.mem_singleton.1 hc];show l.length≤64;have:=HN.out;omega) (by rw[hxD,show (shS x PA pc text EA ec l m).D=.map [] from HSt.out.D];exact dEnt_nil) (by rw[hxD,show (shS x PA pc text EA ec l m).D=.map [] from HSt.out.D];decide)
       rw[hxc',hrn,hxh,hxp,hxt',hxS'] at h
       exact h
      clear hxS hxS' hxt hxt' hxh hxp hxs hxc hxc' hxr hxD hrn
      go_wp2_with fail
      refine (KSt3.out wt (Calm.refl _)).mono ?_
      rintro e wu ⟨⟨lm,B2',d2',B3',d3',B4',d4',B6',d6',B7',d7',B8',d8',rfl,hch,_⟩,hcu⟩
      obtain⟨hs',hp1,hp2,hp3⟩:=hch
      obtain⟨y,rfl⟩:∃y,hs'=[y]:=by
       match hs',hp1 with
       |[y],_=>exact⟨y,rfl⟩
      have hy2:=hp3 0 (⟨1,nmO m,text,EA,ec,l⟩:Chg) y rfl rfl
      obtain⟨pb,po,rfl,hpb,hpk⟩:=hp2.now (by simp)
      obtain⟨ye,hye⟩:∃ye,y.EA=ye:=⟨_,rfl⟩
      obtain⟨yc,hyc⟩:∃yc,y.ec=yc:=⟨_,rfl⟩
      have hy3:y=⟨1,nmO m,text,ye,yc,l⟩:=by rw[hy2.1,hye,hyc]
      have hrd:ReadX encEd 12 wu ye l:=by rw[←hye];exact hy2.2.now
      obtain⟨wv,hwv⟩:∃wv,wv=wu.alloc (.cells #[.int .i64 0,.int .i64 1,.slice B2' 1 d2',.slice B3' 2 d3',.slice B4' rn d4',.slice none 0 0,.slice (some ⟨pb,po,none⟩) 1 d6',.slice B7' 0 d7',.slice B8' lm d8'] 55):=⟨_,rfl⟩
      obtain⟨AB,eA⟩:∃AB,wu.heap.size=AB:=⟨_,rfl⟩
      have hab:CellsB wv AB [.int .i64 0,.int .i64 1,.slice B2' 1 d2',.slice B3' 2 d3',.slice B4' rn d4',.slice none 0 0,.slice (some ⟨pb,po,none⟩) 1 d6',.slice B7' 0 d7',.slice B8' lm d8']:=by rw[hwv,←eA];exact CellsB.new wu _ _
      have hcuv:Calm wu wv:=by
       rw[hwv]
       exact (Calm.refl _).alloc _
      have hcv:Calm wt wv:=hcu.trans hcuv
      have hk:∀(i:Nat) u,(encCg ⟨1,nmO m,text,ye,yc,l⟩)[i]?=some u→wv.cell? ⟨pb,po+i,none⟩=some u:=fun i u hu=>by
       have h:=Calm.at_ hcuv (hpk 0 y rfl i u (by rw[hy3];exact hu)) hpb
       simpa using h
      have k0:=hk 0 _ rfl
      have k1:=hk 1 _ rfl
      have k2:=hk 2 _ rfl
      have k3:=hk 3 _ rfl
      have k4:=hk 4 _ rfl
      rw[Nat.add_zero] at k0
      rw[HN.out] at k3
      have hpbv:pb < wv.heap.size:=Nat.lt_of_lt_of_le hpb hcuv.size
      have HYR:=Lib.hid (hrd.calm hcuv)
      have HNv:Hid (wv.cell? ⟨NB,r,none⟩=some (.string (bs (nmO m)))∧NB < wv.heap.size):=⟨Calm.at_ hcv HNt.out.1 HNt.out.2,Nat.lt_of_lt_of_le HNt.out.2 hcv.size⟩
      have b0:=((HQ.out.1).calm hcv).at_ 0 _ rfl
      have lb:=((HQ.out.1).calm hcv).lt
      have a6:=hab.at_ 6 _ rfl
      have a7:=hab.at_ 7 _ rfl
      have la:=hab.lt
      have HCv:Hid (Calm w wv):=HCt.out.trans hcv
      clear hp1 hp2 hp3 hy2 hye hyc hy3 hrd hk hpk hcu hcuv hcv hab hpb
      go_upto_region 36 with (fail)
      rw[←hwv]
      try simp only[eA]
      clear hwv eA
      go_upto_region 41 with (fail)
      obtain⟨wx,hwx⟩:∃wx,wx=wv.alloc (.cells #[.int .i64 1,.string (bs (nmO m)),.string (bs text),.slice ye j yc,.slice none 0 0] 60):=⟨_,rfl⟩
      obtain⟨CB,eC⟩:∃CB,wv.heap.size=CB:=⟨_,rfl⟩
      have hcb:CellsB wx CB [.int .i64 1,.string (bs (nmO m)),.string (bs text),.slice ye j yc,.slice none 0 0]:=by rw[hwx,←eC];exact CellsB.new wv _ _
      have hcvx:Calm wv wx:=by
       rw[hwx]
       exact (Calm.refl _).alloc _
      have HCB:=Lib.hid hcb
      have HYX:=Lib.hid (HYR.out.calm hcvx)
      have HCx:Hid (Calm w wx):=HCv.out.trans hcvx
      have n0:=Calm.at_ hcvx HNv.out.1 HNv.out.2
      have ln0:NB < wx.heap.size:=Nat.lt_of_lt_of_le HNv.out.2 hcvx.size
      have q1:=hcb.at_ 1 _ rfl
      have q2:=hcb.at_ 2 _ rfl
      have q3:=hcb.at_ 3 _ rfl
      have lq:=hcb.lt
      clear hcb hcvx k0 k1 k2 k3 k4 hpbv b0 lb a6 a7 la
      rw[←hwx]
      try simp only[eC]
      clear hwx eC
      go_cut [238] (fun s wy=>s=.bool false∧Hid (Calm wx wy))
      case first=>
       go_quiet (fail)
       all_goals
        go_wp2_with fail
        go_meet
        case rel=>exact⟨rfl,(Calm.refl _).drewN _⟩
      case rest=>
       obtain⟨rfl,hcy⟩:=hcut
       obtain⟨wy,rfl⟩:∃wy,wy=wc:=⟨_,rfl⟩
       clear n0 ln0 q1 q2 q3 lq
       go_wp2_with fail
       go_loopw [241] (fun i wr=>∃k:Nat,k≤j∧i=.int .i64 k∧Hid (Calm wx wr)) (fun i _=>j - (intOf i).toNat)
       case atStart=>exact⟨0,Nat.zero_le _,rfl,hcy.out⟩
       case round=>
        obtain⟨k,hk,rfl,HR⟩:=hrel
        by_cases h0:k < j
        ·obtain⟨b1,o1,y1,rfl,hb1,hy1,hat⟩:=edits_get (HX.out.calm (HCx.out.trans HR.out)) (k:=k) (by rw[HN.out];exact h0)
         obtain⟨b2,o2,y2,rfl,hb2,hy2,hat2⟩:=edits_get (HYX.out.calm HR.out) (k:=k) (by rw[HN.out];exact h0)
         obtain rfl:y1=y2:=Option.some.inj (hy1.symm.trans hy2)
         have c0:=hat.c0
         have e0:=hat2.c0
         have c1:=hat.c1
         have e1:=hat2.c1
         have c2:=hat.c2
         have e2:=hat2.c2
         have c3:=hat.c3
         have e3:=hat2.c3
         have c4:=hat.c4
         have e4:=hat2.c4
         have c5:=hat.c5
         have e5:=hat2.c5
         have c6:=hat.c6
         have e6:=hat2.c6
         have c7:=hat.c7
         have e7:=hat2.c7
         have c8:=hat.c8
         have e8:=hat2.c8
         have c9:=hat.c9
         have e9:=hat2.c9
         have c10:=hat.c10
         have e10:=hat2.c10
         have c11:=hat.c11
         have e11:=hat2.c11
         have q3:=(HCB.out.calm HR.out).at_ 3 _ rfl
         have lq:=(HCB.out.calm HR.out).lt
         have hne:∀W,(binOp .neq 32 (.agg #[.string (bs y1.path),.int .i64 y1.act,.int .i64 y1.tb,.bool y1.tk,.bool y1.tx,.bool y1.te,.int .u64 y1.sum,.int .i64 y1.size,.int .i64 y1.base,.string (bs y1.frm),.int .i64 y1.fn,.int .i64 y1.fence]) (.agg #[.string (bs y1.path),.int .i64 y1.act,.int .i64 y1.tb,.bool y1.tk,.bool y1.tx,.bool y1.te,.int .u64 y1.sum,.int .i64 y1.size,.int .i64 y1.base,.string (bs y1.frm),.int .i64 y1.fn,.int .i64 y1.fence])).run Tryz.prog W=.ok (.bool false) W:=fun W=>ed_neq y1.path y1.act y1.tb y1.tk y1.tx y1.te y1.sum y1.size y1.base y1.frm y1.fn y1.fence W
         have heq:∀W,(Op.equalIn 10000 32 (.agg #[.string (bs y1.path),.int .i64 y1.act,.int .i64 y1.tb,.bool y1.tk,.bool y1.tx,.bool y1.te,.int .u64 y1.sum,.int .i64 y1.size,.int .i64 y1.base,.string (bs y1.frm),.int .i64 y1.fn,.int .i64 y1.fence]) (.agg #[.string (bs y1.path),.int .i64 y1.act,.int .i64 y1.tb,.bool y1.tk,.bool y1.tx,.bool y1.te,.int .u64 y1.sum,.int .i64 y1.size,.int .i64 y1.base,.string (bs y1.frm),.int .i64 y1.fn,.int .i64 y1.fence])).run Tryz.prog W=.ok true W:=fun W=>ed_eq y1.path y1.act y1.tb y1.tk y1.tx y1.te y1.sum y1.size y1.base y1.frm y1.fn y1.fence W
         have hgd:=ed_guard
         have hk1:(k:Int) < (j:Int):=by omega
         have hk0:(0:Int)≤(k:Int):=by omega
         clear hat hat2 hy1 hy2
         go_upto_region 46 with (fail)
         go_quiet (fail)
         all_goals
          go_wp2_with fail
          go_roundw
          case rel=>exact⟨k+1,by omega,by go_num,HR.out.drewN _⟩
          case measure=>simp[intOf];omega
        ·obtain rfl:k=j:=by omega
         go_wp2_with fail
         go_ret
         exact⟨rfl,HCx.out.trans HR.out⟩
end Go.Proofs.YtcofdlipapnohaaGreatDoor
namespace Go.Proofs.YtcofdlipapnohaaGreatDoor
open Go Go.ChangeShapes Go.WideShapes Go.RowKit Go.Deep Sy
theorem cell_lt {w:World} {a:Addr} {v:Value} (h:w.cell? a=some v):a.block < w.heap.size∧a.spot=none:=by
 unfold World.cell? at h
 split at h
 ·rename_i h1
  constructor
  ·rcases Nat.lt_or_ge a.block w.heap.size with h2 | h2
   ·exact h2
   ·rw[Array.getElem?_eq_none h2] at h1;cases h1
  ·split at h
   ·cases h
   ·rename_i h2;simpa using h2
 ·cases h
theorem weightsAll_mem {H:Type} {P:Program} {e:TypeId} {n:Nat}:∀{l:List (DataW H)} {d:DataW H},d∈l→n∈d.weights P e→n∈DataW.weightsAll P e l
 |[],d,hd,_=>by cases hd
 |a :: l,d,hd,hn=>by
  rw[DataW.weightsAll]
  rcases List.mem_cons.1 hd with rfl | h1
  ·exact List.mem_append.2 (.inl hn)
  ·exact List.mem_append.2 (.inr (weightsAll_mem h1 hn))
section
variable {H:Type} {enc:TypeId × Value→H} {w:World}
theorem u_str:Tryz.prog.underlying 9=some .string:=Tryz.underlying9
theorem u_bool:Tryz.prog.underlying 4=some .bool:=Tryz.underlying4
theorem c_str:Tryz.prog.cellsOf 9=1:=by kernel_rfl
theorem c_bool:Tryz.prog.cellsOf 4=1:=by kernel_rfl
set_option maxRecDepth 20000 in
theorem open_strD {v:Value} {b0:Nat} {d:DataW H} {p:List MemPlace} (hv:Value.okWide Tryz.prog w .any b0 9 v) (h:DataW.Trod enc Tryz.prog w 0 (fun _=>true) true 9 v d p) :
  ∃s:Str,v=.string (bs s)∧d=.lit (.string s)∧s.length≤9223372036854775807:=by
 obtain⟨s,rfl,hd,_,hs⟩:=Go.ChangeMaps.open_string Tryz.underlying9 hv h
 refine⟨s.data.toList,by rw[bs_eta],hd,?_⟩
 have h2:s.data.toList.length=s.size:=rfl
 rw[h2]
 exact hs
end
section
variable {H:Type} {enc:TypeId × Value→H} {w:World}
end
section
variable {H:Type} {enc:TypeId × Value→H} {w:World}
end
section
variable {H:Type} {enc:TypeId × Value→H} {w:World}
theorem u_eds:Tryz.prog.underlying 22=some (.slice 32):=Tryz.underlying22
theorem u_intE:Tryz.prog.underlying 3=some (.int .i64):=Tryz.underlying3
theorem u_u64E:Tryz.prog.underlying 28=some (.int .u64):=Tryz.underlying28
theorem c_edit:Tryz.prog.cellsOf 32=12:=by kernel_rfl
theorem c_etype:Tryz.prog.cellsOf 27=4:=by kernel_rfl
theorem c_econt:Tryz.prog.cellsOf 30=2:=by kernel_rfl
theorem c_intE:Tryz.prog.cellsOf 3=1:=by kernel_rfl
theorem c_u64E:Tryz.prog.cellsOf 28=1:=by kernel_rfl
theorem b_edit:Tryz.prog.bytesOf 32=96:=by kernel_rfl
theorem trod_struct4E {t:TypeId} {f0 f1 f2 f3:Field} {fuel:Nat} {cs:List Value} {x:DataW H × List MemPlace} (ht:Tryz.prog.underlying t=some (.struct #[f0,f1,f2,f3])) (h:DataW.trod enc Tryz.prog w 0 (fun _=>true) true fuel t cs=some x) :
  ∃y0 y1 y2 y3 n,x=(.agg [y0.1,y1.1,y2.1,y3.1],y0.2++(y1.2++(y2.2++y3.2)))∧cs.length=Tryz.prog.cellsOf t∧DataW.trod enc Tryz.prog w 0 (fun _=>true) true n f0.type ((cs.drop f0.offset).take (Tryz.prog.cellsOf f0.type))=some y0 ∧
   DataW.trod enc Tryz.prog w 0 (fun _=>true) true n f1.type ((cs.drop f1.offset).take (Tryz.prog.cellsOf f1.type))=some y1∧DataW.trod enc Tryz.prog w 0 (fun _=>true) true n f2.type ((cs.drop f2.offset).take (Tryz.prog.cellsOf f2.type))=some y2 ∧
   DataW.trod enc Tryz.prog w 0 (fun _=>true) true n f3.type ((cs.drop f3.offset).take (Tryz.prog.cellsOf f3.type))=some y3:=by
 obtain⟨xs,n,_,rfl,hl,hlen,hf⟩:=DataW.trod_struct ht h
 match xs,hlen with
 |[y0,y1,y2,y3],_=>exact⟨y0,y1,y2,y3,n,by simp,hl,by simpa using hf 0 f0 rfl,by simpa using hf 1 f1 rfl,by simpa using hf 2 f2 rfl,by simpa using hf 3 f3 rfl⟩
theorem trod_struct8E {t:TypeId} {f0 f1 f2 f3 f4 f5 f6 f7:Field} {fuel:Nat} {cs:List Value} {x:DataW H × List MemPlace} (ht:Tryz.prog.underlying t=some (.struct #[f0,f1,f2,f3,f4,f5,f6,f7])) (h:DataW.trod enc Tryz.prog w 0 (fun _=>true) true fuel t cs=some x) :
  ∃y0 y1 y2 y3 y4 y5 y6 y7 n,x.1=.agg [y0.1,y1.1,y2.1,y3.1,y4.1,y5.1,y6.1,y7.1]∧cs.length=Tryz.prog.cellsOf t∧DataW.trod enc Tryz.prog w 0 (fun _=>true) true n f0.type ((cs.drop f0.offset).take (Tryz.prog.cellsOf f0.type))=some y0 ∧
   DataW.trod enc Tryz.prog w 0 (fun _=>true) true n f1.type ((cs.drop f1.offset).take (Tryz.prog.cellsOf f1.type))=some y1∧DataW.trod enc Tryz.prog w 0 (fun _=>true) true n f2.type ((cs.drop f2.offset).take (Tryz.prog.cellsOf f2.type))=some y2 ∧
   DataW.trod enc Tryz.prog w 0 (fun _=>true) true n f3.type ((cs.drop f3.offset).take (Tryz.prog.cellsOf f3.type))=some y3∧DataW.trod enc Tryz.prog w 0 (fun _=>true) true n f4.type ((cs.drop f4.offset).take (Tryz.prog.cellsOf f4.type))=some y4 ∧
   DataW.trod enc Tryz.prog w 0 (fun _=>true) true n f5.type ((cs.drop f5.offset).take (Tryz.prog.cellsOf f5.type))=some y5∧DataW.trod enc Tryz.prog w 0 (fun _=>true) true n f6.type ((cs.drop f6.offset).take (Tryz.prog.cellsOf f6.type))=some y6 ∧
   DataW.trod enc Tryz.prog w 0 (fun _=>true) true n f7.type ((cs.drop f7.offset).take (Tryz.prog.cellsOf f7.type))=some y7:=by
 obtain⟨xs,n,_,rfl,hl,hlen,hf⟩:=DataW.trod_struct ht h
 match xs,hlen with
 |[y0,y1,y2,y3,y4,y5,y6,y7],_=>exact⟨y0,y1,y2,y3,y4,y5,y6,y7,n,by simp,hl,by simpa using hf 0 f0 rfl,by simpa using hf 1 f1 rfl,by simpa using hf 2 f2 rfl,by simpa using hf 3 f3 rfl,by simpa using hf 4 f4 rfl,by simpa using hf 5 f5 rfl,by simpa using hf 6 f6 rfl,by simpa using hf 7 f7 rfl⟩
theorem weights_agg8 {t:TypeId} {f0 f1 f2 f3 f4 f5 f6 f7:Field} {d0 d1 d2 d3 d4 d5 d6 d7:DataW H} {n:Nat} (ht:Tryz.prog.underlying t=some (.struct #[f0,f1,f2,f3,f4,f5,f6,f7])):(n∈d0.weights Tryz.prog f0.type→n∈(DataW.agg [d0,d1,d2,d3,d4,d5,d6,d7]).weights Tryz.prog t)∧(n∈d5.weights Tryz.prog f5.type→n∈(DataW.agg [d0,d1,d2,d3,d4,d5,d6,d7]).weights Tryz.prog t):=by
 rw[DataW.weights,ht]
 simp only[List.map_cons,List.map_nil,DataW.weightsEach,List.append_nil,List.mem_append]
 exact⟨.inl,fun h=>.inr (.inr (.inr (.inr (.inr (.inl h)))))⟩
instance:Inhabited Edt:=⟨⟨[],0,0,false,false,false,0,0,0,[],0,0⟩⟩
theorem str_weight {s:List UInt8} {t:TypeId}:s.length∈(DataW.lit (.string s):DataW H).weights Tryz.prog t:=by
 rw[DataW.weights]
 exact List.mem_singleton.2 rfl
set_option maxRecDepth 20000 in
theorem open_edit {fuel:Nat} {cs:List Value} {x:DataW H × List MemPlace} (h:DataW.trod enc Tryz.prog w 0 (fun _=>true) true fuel 32 cs=some x) (hw:∀n∈x.1.weights Tryz.prog 32,n≤reachBytes) :
  ∃y:Edt,cs=encEd y∧y.path.length≤reachBytes∧y.frm.length≤reachBytes:=by
 obtain⟨y0,y1,y2,y3,y4,y5,y6,y7,n,hx,hlen,h0,h1,h2,h3,h4,h5,h6,h7⟩:=trod_struct8E Tryz.underlying32 h
 rw[hx] at hw
 rw[c_edit] at hlen
 match cs,hlen with
 |[c0,c1,c2,c3,c4,c5,c6,c7,c8,c9,c10,c11],_=>
  have e0:DataW.trod enc Tryz.prog w 0 (fun _=>true) true n 9 [c0]=some y0:=by simpa[c_str] using h0
  have e1:DataW.trod enc Tryz.prog w 0 (fun _=>true) true n 3 [c1]=some y1:=by simpa[c_intE] using h1
  have e2:DataW.trod enc Tryz.prog w 0 (fun _=>true) true n 27 [c2,c3,c4,c5]=some y2:=by simpa[c_etype] using h2
  have e3:DataW.trod enc Tryz.prog w 0 (fun _=>true) true n 30 [c6,c7]=some y3:=by simpa[c_econt] using h3
  have e4:DataW.trod enc Tryz.prog w 0 (fun _=>true) true n 3 [c8]=some y4:=by simpa[c_intE] using h4
  have e5:DataW.trod enc Tryz.prog w 0 (fun _=>true) true n 9 [c9]=some y5:=by simpa[c_str] using h5
  have e6:DataW.trod enc Tryz.prog w 0 (fun _=>true) true n 3 [c10]=some y6:=by simpa[c_intE] using h6
  have e7:DataW.trod enc Tryz.prog w 0 (fun _=>true) true n 3 [c11]=some y7:=by simpa[c_intE] using h7
  obtain⟨s0,g0,k0,_⟩:=DataW.trod_string u_str e0
  obtain⟨z1,g1,_,_⟩:=DataW.trod_int u_intE e1
  obtain⟨t0,t1,t2,t3,n2,_,_,j0,j1,j2,j3⟩:=trod_struct4E Tryz.underlying27 e2
  obtain⟨p0,p1,n3,_,_,q0,q1⟩:=trod_struct2 Tryz.underlying30 e3
  have r0:DataW.trod enc Tryz.prog w 0 (fun _=>true) true n2 3 [c2]=some t0:=by simpa[c_intE] using j0
  have r1:DataW.trod enc Tryz.prog w 0 (fun _=>true) true n2 4 [c3]=some t1:=by simpa[c_bool] using j1
  have r2:DataW.trod enc Tryz.prog w 0 (fun _=>true) true n2 4 [c4]=some t2:=by simpa[c_bool] using j2
  have r3:DataW.trod enc Tryz.prog w 0 (fun _=>true) true n2 4 [c5]=some t3:=by simpa[c_bool] using j3
  have r6:DataW.trod enc Tryz.prog w 0 (fun _=>true) true n3 28 [c6]=some p0:=by simpa[c_u64E] using q0
  have r7:DataW.trod enc Tryz.prog w 0 (fun _=>true) true n3 3 [c7]=some p1:=by simpa[c_intE] using q1
  obtain⟨z2,g2,_,_⟩:=DataW.trod_int u_intE r0
  obtain⟨z3,g3,_⟩:=DataW.trod_bool u_bool r1
  obtain⟨z4,g4,_⟩:=DataW.trod_bool u_bool r2
  obtain⟨z5,g5,_⟩:=DataW.trod_bool u_bool r3
  obtain⟨z6,g6,_,_⟩:=DataW.trod_int u_u64E r6
  obtain⟨z7,g7,_,_⟩:=DataW.trod_int u_intE r7
  obtain⟨z8,g8,_,_⟩:=DataW.trod_int u_intE e4
  obtain⟨s9,g9,k9,_⟩:=DataW.trod_string u_str e5
  obtain⟨z10,g10,_,_⟩:=DataW.trod_int u_intE e6
  obtain⟨z11,g11,_,_⟩:=DataW.trod_int u_intE e7
  have hw0:=hw s0.data.toList.length ((weights_agg8 Tryz.underlying32).1 (by rw[k0];exact str_weight))
  have hw9:=hw s9.data.toList.length ((weights_agg8 Tryz.underlying32).2 (by rw[k9];exact str_weight))
  simp only[List.cons.injEq,and_true] at g0 g1 g2 g3 g4 g5 g6 g7 g8 g9 g10 g11
  subst g0 g1 g2 g3 g4 g5 g6 g7 g8 g9 g10 g11
  exact⟨⟨s0.data.toList,z1,z2,z3,z4,z5,z6,z7,z8,s9.data.toList,z10,z11⟩,by simp[encEd,bs_eta],hw0,hw9⟩
set_option maxRecDepth 20000 in
theorem open_edits {fuel:Nat} {cs:List Value} {x:DataW H × List MemPlace} (h:DataW.trod enc Tryz.prog w 0 (fun _=>true) true fuel 22 cs=some x) (hw:∀n∈x.1.weights Tryz.prog 22,n≤reachBytes) :
  ∃A l c,cs=[.slice A (List.length l) c]∧l.length≤c∧c≤140737488355328∧ReadX encEd 12 w A l∧∀y∈l,y.path.length≤reachBytes∧y.frm.length≤reachBytes:=by
 rcases open_slice u_eds h with⟨rfl,rfl⟩ | ⟨a,len,cap,m,n,D,Pl,rfl,hb,hl,hm,hmm,rfl,hx⟩
 ·exact⟨none,[],0,rfl,Nat.le_refl _,by decide,(fun h0=>absurd rfl h0),(fun y hy=>by cases hy)⟩
 ·have hmc:m=cap:=hmm
  subst hmc
  have hcap:m * 96≤reachBytes:=by
   refine hw _ ?_
   rw[DataW.weights,u_eds]
   simp only[b_edit,List.length_map,List.length_range]
   rw[show len+(m - len)=m by omega]
   exact List.mem_cons_self ..
  have hr:reachBytes=140737488351232:=by decide
  rw[hr] at hcap
  have each:∀i,i < len→∃y:Edt,(∀ab ao,a=⟨ab,ao,none⟩→∀(j:Nat) u,(encEd y)[j]?=some u→w.cell? ⟨ab,ao+i * 12+j,none⟩=some u)∧(y.path.length≤reachBytes∧y.frm.length≤reachBytes)∧(w.cell? (a.add (i * 12))).isSome=true:=fun i hi=>by
   obtain⟨cs',hc,ht⟩:=hx i (by omega)
   rw[c_edit] at hc
   obtain⟨y,rfl,g1,g2⟩:=open_edit ht (fun n hn=>hw n (by
    rw[DataW.weights,u_eds]
    exact List.mem_cons_of_mem _ (List.mem_append.2 (.inl (weightsAll_mem (d:=D i) (List.mem_map.2 ⟨i,List.mem_range.2 hi,rfl⟩) hn)))))
   obtain⟨_,_,hat⟩:=World.cells?_some hc
   refine⟨y,fun ab ao e j u hu=>?_,⟨g1,g2⟩,?_⟩
   ·subst e
    have hj:j < (encEd y).length:=(List.getElem?_eq_some_iff.1 hu).1
    have h0:=hat j hj
    rw[add_plain] at h0
    rw[add_plain] at h0
    exact h0.trans hu
   ·have h0:=hat 0 (by simp[encEd])
    have h5:(a.add (i * 12)).add 0=a.add (i * 12):=by simp[Addr.add]
    rw[h5] at h0
    rw[h0]
    rfl
  obtain⟨R,hR⟩:=choose_lt each
  refine⟨some a,(List.range len).map fun i=>R i,m,by simp,by simpa using hl,by omega,fun h0=>?_,fun y hy=>?_⟩
  ·have h0':0 < len:=by
    rcases Nat.eq_zero_or_pos len with e | e
    ·subst e
     exact absurd rfl h0
    ·exact e
   obtain⟨q0,hq0⟩:=Option.isSome_iff_exists.1 (hR 0 h0').2.2
   obtain⟨q1,q2⟩:=cell_lt hq0
   obtain⟨ab,ao,asp⟩:=a
   have q3:asp=none:=q2
   subst q3
   refine⟨ab,ao,rfl,q1,fun k y hk=>?_⟩
   rw[List.getElem?_map] at hk
   obtain⟨i,hi,rfl⟩:=Option.map_eq_some_iff.1 hk
   obtain⟨hlt,he⟩:=List.getElem?_eq_some_iff.1 hi
   rw[List.getElem_range] at he
   subst he
   rw[List.length_range] at hlt
   exact (hR k hlt).1 ab ao rfl
  ·obtain⟨i,hi,rfl⟩:=List.mem_map.1 hy
   exact (hR i (List.mem_range.1 hi)).2.1
set_option maxRecDepth 20000 in
theorem open_editsL {v:Value} {b0:Nat} {d:DataW H} {p:List MemPlace} (hv:Value.okWide Tryz.prog w .any b0 22 v) (h:DataW.Trod enc Tryz.prog w 0 (fun _=>true) true 22 v d p) (hw:∀n∈d.weights Tryz.prog 22,n≤reachBytes) :
  ∃(A:Option Addr) (l:List Edt) (c:Nat),v=.slice A l.length c∧ReadX encEd 12 w A l∧l.length≤c∧c≤9223372036854775807∧∀y∈l,y.path.length≤140737488351232∧y.frm.length≤140737488351232:=by
 obtain⟨a0,len,cap,rfl⟩:=okWide_slice Tryz.underlying22 hv
 obtain⟨fuel,hf⟩:=h
 obtain⟨A,l,c,h1,h2,h3,h4,h5⟩:=open_edits hf hw
 simp only[Value.cells,List.cons.injEq,and_true] at h1
 exact⟨A,l,c,h1,h4,h2,Nat.le_trans h3 (by decide),h5⟩
end
end Go.Proofs.YtcofdlipapnohaaGreatDoor
namespace Go.Proofs.YtcofdlipapnohaaGreatDoor
open Go.ChangeShapes Go.WideShapes Go.ChangeAt Go.RowKit
theorem fact_and {a b:Bool} (ha:a=true) (hb:b=true):(a && b)=true:=by rw[ha,hb];rfl
theorem fact1:(laidOutB Tryz.pinned.checked.prog)=true:=by kernel_rfl
theorem fact2:(mapsRowed Tryz.pinned.checked.prog)=true:=by kernel_rfl
theorem fact6:((Tryz.pinned.checked.prog.stops == []))=true:=by kernel_rfl
theorem fact8:((Tryz.pinned.checked.prog.stopKnobs == []))=true:=by kernel_rfl
theorem fact22:((Rows.topShelvesRow.plainKeys == Tryz.pinned.checked.prog.plainKeys))=true:=by kernel_rfl
theorem fact24:(Tryz.pinned.checked.prog.stopsHeard)=true:=by kernel_rfl
theorem fact25:(Tryz.pinned.checked.prog.mayEnter)=true:=by kernel_rfl
theorem fact26:((Rows.topShelvesRow.lifted == Tryz.pinned.checked.prog.liftsFinal))=true:=by kernel_rfl
theorem fact27:((Tryz.pinned.checked.prog.make == some Rows.topShelvesRow.make))=true:=by kernel_rfl
theorem factLooks:false=Tryz.pinned.checked.prog.looks []:=by kernel_rfl
end Go.Proofs.YtcofdlipapnohaaGreatDoor
namespace Go.Proofs.YtcofdlipapnohaaGreatDoor.topShelves
open Go.ChangeShapes Go.WideShapes Go.ChangeAt Go.RowKit Sy
theorem own:ownKnob Tryz.prog.godebug=none:=by kernel_rfl
theorem laidOut:laidOutB Tryz.prog=true:=by kernel_rfl
def accZ:List Int:=[128,191,160,191,128,159,144,191,128,143,0,0,0,0,0,0,0,0,0,0,0,0,0,0,0,0,0,0,0,0,0,0]
theorem maxL {W:World} (h:W.ShapedOpen Tryz.prog):MaxL W:=by
 obtain⟨m,hm⟩:=Tryz.laysM146.s1_3 W h
 exact⟨(cell_lt hm).1,m,hm⟩
set_option maxRecDepth 100000 in
theorem contract (H:Type) (enc:TypeId × Value→H) (W:World) (base:Nat) (args:Array Value) (ds gs:List (DataW H)) (before:List MemPlace)
  (hval:∀(j:Nat) t v,Tryz.f3.params[j]?=some t→args[j]?=some v→Value.okWide Tryz.prog W .any base t v)
  (hW:DataW.Whole enc Tryz.prog Tryz.f3.params.toList Rows.topShelvesSpec.vars false W args.toList ds gs before)
  (hsz:(DataW.weightsEach Tryz.prog (Tryz.f3.params.toList++((OpenSpec.ofChange Rows.topShelvesSpec).bare.plain.varTypes Tryz.prog)) (ds++gs)).all (·≤reachBytes)=true) (hL:laidMetH Tryz.prog Rows.topShelvesRow.laid W) (hsh:W.ShapedOpen Tryz.prog) :
  Calls Tryz.prog 3 args W fun e W'=>∃v,e=.returned v∧Rows.topShelvesSpec.post enc Tryz.prog Tryz.f3 false true false false W args v W':=by
 have hW':=hW
 obtain⟨p,q,hA0,hV,rfl,hfz,hnd⟩:=hW
 have hA:DataW.TrodAll enc Tryz.prog W 0 (fun _=>true) true Tryz.f3.params.toList args.toList ds p:=hA0
 rw[Tryz.params3] at hA hval hsz
 obtain⟨v0,vs0,d0,ds0,p0,q0,hargs,rfl,rfl,h0,r0⟩:=trodAll_cons hA
 obtain⟨v1,vs1,d1,ds1,p1,q1,rfl,rfl,rfl,h1,r1⟩:=trodAll_cons r0
 obtain⟨v2,vs2,d2,ds2,p2,q2,rfl,rfl,rfl,h2,r2⟩:=trodAll_cons r1
 obtain⟨rfl,rfl,rfl⟩:=trodAll_nil r2
 obtain rfl:args=#[v0,v1,v2]:=by cases args;simp_all
 obtain⟨rfl,rfl⟩:=trodVars_none hV
 clear hA0
 simp only[List.append_nil] at hW'
 have hw0:∀n∈d0.weights Tryz.prog 22,n≤reachBytes:=fun n hn=>by
  have:=List.all_eq_true.1 hsz n (DataW.weights_mem_each (j:=0) rfl rfl n hn)
  simpa using this
 obtain⟨EA,es,ec,rfl,q1,q2,q3,q4⟩:=open_editsL (hval 0 22 v0 rfl rfl) h0 hw0
 obtain⟨z,rfl,_,_,wf_z⟩:=Go.ChangeShapes.open_int Tryz.underlying3 (hval 1 3 v1 rfl rfl) h1
 have hz1:-9223372036854775808≤z∧z≤9223372036854775807:=by
  have h:=wf_z
  simp only[Lit.wf,Bool.and_eq_true,decide_eq_true_eq] at h
  exact h
 obtain⟨s,rfl,hsd,hs1⟩:=open_strD (hval 2 9 v2 rfl rfl) h2
 have hlt0:∀x∈p0,x.block < W.heap.size:=fun x hx=>by simpa using hW'.lt x (by simp[hx])
 have hlt1:∀x∈p1,x.block < W.heap.size:=fun x hx=>by simpa using hW'.lt x (by simp[hx])
 have hlt2:∀x∈p2,x.block < W.heap.size:=fun x hx=>by simpa using hW'.lt x (by simp[hx])
 refine (topShelves_c es z s EA es.length ec W q1 rfl q4 hs1 (maxL hsh)).mono fun e W' ⟨he,hg⟩=>?_
 subst he
 have h0':DataW.Trod enc Tryz.prog W' 0 (fun b=>decide (b < W.heap.size)) true 22 _ _ p0:=Below.trod laidOut (by kernel_rfl) (of_decide_eq_true (by kernel_rfl)) h0 hg hlt0
 have h1':DataW.Trod enc Tryz.prog W' 0 (fun b=>decide (b < W.heap.size)) true 3 _ _ p1:=Below.trod laidOut (by kernel_rfl) (of_decide_eq_true (by kernel_rfl)) h1 hg hlt1
 have h2':DataW.Trod enc Tryz.prog W' 0 (fun b=>decide (b < W.heap.size)) true 9 _ _ p2:=Below.trod laidOut (by kernel_rfl) (of_decide_eq_true (by kernel_rfl)) h2 hg hlt2
 refine⟨_,rfl,_,_,_,[],_,[],hW',?_,trodAll_mk3 h0' h1' h2',rfl,hg.frame _,fun h=>by cases h⟩
 exact trodAll_mk1 (shut_bool Tryz.underlying4 _)
def argsW:Array Value:=#[.slice none 0 0,.int .i64 0,.string ⟨#[]⟩]
noncomputable def laidWorld (os:Os):World:=
 { World.holding Tryz.prog os ⟨#[],#[],[]⟩ with heap:=(((World.holding Tryz.prog os ⟨#[],#[],[]⟩).heap.modify 2 (fun
   |.cells _ t frozen=>.cells (accZ.map fun z=>Value.int .u8 z).toArray t frozen
   |o=>o)).modify 1 (fun
   |.cells _ t frozen=>.cells (Go.Pinned.utf8FirstZ.map fun z:Nat=>Value.int .u8 (z:Int)).toArray t frozen
   |o=>o)) }
theorem laid_met (os:Os):laidMet Tryz.prog Rows.topShelvesRow.laid ((laidWorld os).forCall (fun _ _=>0) ⟨#[],argsW,[]⟩).memory:=
 laidMet_of_run' 8 (by kernel_rfl) (by kernel_rfl)
theorem reads (os:Os) {H:Type} (enc:TypeId × Value→H):∃places,DataW.whole enc Tryz.prog ((laidWorld os).forCall (fun _ _=>0) ⟨#[],argsW,[]⟩).memory Tryz.f3.params.toList Rows.topShelvesSpec.vars false argsW.toList 8=some ([.nil,.lit (.int .i64 0),.lit (.string [])],[],places):=
 ⟨[],by kernel_rfl⟩
set_option maxRecDepth 100000 in
theorem lifted (os:Os) (started:os.Started) (H:Type) (enc:TypeId × Value→H) (F:Stop.Interp) :
  ReturnsInHanded {} Tryz.checked os 3 .any ((OpenSpec.ofChange Rows.topShelvesSpec).preRow enc Tryz.prog Tryz.f3 Rows.topShelvesRow.domain false Rows.topShelvesRow.laid) (((OpenSpec.ofChange Rows.topShelvesSpec).at F).post enc Tryz.prog Tryz.f3 false true false false):=by
 obtain⟨places,hx⟩:=reads os enc
 refine returnsInHanded_of_row (C:=Tryz.checked) (s:=OpenSpec.ofChange Rows.topShelvesSpec) own started (by kernel_rfl) Tryz.func3
  (witness_row_at (enc:=enc) (C:=Tryz.checked) false (laidWorld os) argsW rfl (by kernel_rfl) (by kernel_rfl) (by kernel_rfl)
   (OpenSpec.preRow_of_cond 8 hx (by kernel_rfl) (fun k hk=>by cases hk) (by kernel_rfl) (laid_met os))) ?_
 intro W base args ds gs before hval hW hcnd hcond hsz hL hsh _
 exact contract H enc W base args ds gs before hval hW hsz hL hsh
theorem own0:(Rows.topShelvesRow.wf (OpenSpec.ofChange (OpenSpec.ofChange Rows.topShelvesSpec).bare))=true:=by kernel_rfl
theorem own3:(Tryz.f3.params.all (Tryz.pinned.checked.prog.readableRec ·))=true:=by kernel_rfl
theorem own4:(namedTie Tryz.pinned.checked.prog Rows.topShelvesRow.named (OpenSpec.ofChange Rows.topShelvesSpec).bare.vars)=true:=by kernel_rfl
theorem own5:((Rows.topShelvesRow.stops == []))=true:=by kernel_rfl
theorem own7:((Rows.topShelvesRow.knobs == []))=true:=by kernel_rfl
theorem own9:((Rows.topShelvesRow.inPlace == Tryz.pinned.checked.prog.inPlace 3))=true:=by kernel_rfl
theorem own10:((Rows.topShelvesRow.unfollowed == Tryz.pinned.checked.prog.unfollowed 3))=true:=by kernel_rfl
theorem own11:((Rows.topShelvesRow.recurses == Tryz.pinned.checked.prog.recurses 3))=true:=by kernel_rfl
theorem own12:((Rows.topShelvesRow.named == Tryz.pinned.checked.prog.varsNamed 3))=true:=by kernel_rfl
theorem own13:((Rows.topShelvesRow.maps == (Tryz.f3.params.toList++(OpenSpec.ofChange Rows.topShelvesSpec).bare.plain.varTypes Tryz.pinned.checked.prog).any (Tryz.pinned.checked.prog.mapsRec ·)))=true:=by kernel_rfl
theorem own14:((Rows.topShelvesRow.ifaces == (Tryz.f3.params.toList++(OpenSpec.ofChange Rows.topShelvesSpec).bare.plain.varTypes Tryz.pinned.checked.prog).any (Tryz.pinned.checked.prog.ifacesRec ·)))=true:=by kernel_rfl
theorem own15:((Rows.topShelvesRow.mapsOut == Tryz.pinned.checked.prog.mapsAmong Tryz.f3.resultTypes.toList))=true:=by kernel_rfl
theorem own16:((Rows.topShelvesRow.loops == (Tryz.f3.params.toList++(OpenSpec.ofChange Rows.topShelvesSpec).bare.plain.varTypes Tryz.pinned.checked.prog).any (Tryz.pinned.checked.prog.loopsFrom ·)))=true:=by kernel_rfl
theorem own17:((Rows.topShelvesRow.wideKeys == (Tryz.f3.params.toList++(OpenSpec.ofChange Rows.topShelvesSpec).bare.plain.varTypes Tryz.pinned.checked.prog++Tryz.f3.resultTypes.toList).any (Tryz.pinned.checked.prog.wideKeysFrom ·)))=true:=by kernel_rfl
theorem own18:((OpenSpec.ofChange Rows.topShelvesSpec).bare.vars.all (Tryz.pinned.checked.prog.varReadable ·))=true:=by kernel_rfl
theorem own19:(Tryz.f3.resultTypes.all (fun t=>Tryz.pinned.checked.prog.readableRec t && decide (t < Tryz.pinned.checked.prog.types.size)))=true:=by kernel_rfl
theorem own20:((Rows.topShelvesRow.ifacesOut == Tryz.f3.resultTypes.toList.any (Tryz.pinned.checked.prog.ifacesRec ·)))=true:=by kernel_rfl
theorem own21:((Rows.topShelvesRow.loopsOut == Tryz.f3.resultTypes.toList.any (Tryz.pinned.checked.prog.loopsFrom ·)))=true:=by kernel_rfl
theorem own23:(Rows.topShelvesRow.shortTexts.isNone)=true:=by kernel_rfl
theorem own28:((Rows.topShelvesRow.kinds == (if Rows.topShelvesRow.domain.isEmpty then [] else Tryz.f3.params.toList.map fun t=>match Tryz.pinned.checked.prog.underlying t with | some (.int k)=>some k | _=>none)))=true:=by kernel_rfl
theorem own29:((Rows.topShelvesRow.pinned == Rows.topShelvesRow.pinnedBy))=true:=by kernel_rfl
theorem own30:((Rows.topShelvesRow.veiled == (Tryz.f3.params.toList++(OpenSpec.ofChange Rows.topShelvesSpec).bare.plain.varTypes Tryz.pinned.checked.prog++Tryz.f3.resultTypes.toList).any (Tryz.pinned.checked.prog.veiledRec ·)))=true:=by kernel_rfl
theorem own31:(Rows.topShelvesRow.veiledFits Tryz.pinned.checked.prog Tryz.f3.params.toList (Tryz.f3.params.toList++(OpenSpec.ofChange Rows.topShelvesSpec).bare.plain.varTypes Tryz.pinned.checked.prog++Tryz.f3.resultTypes.toList))=true:=by kernel_rfl
theorem closed:joinedFacts Tryz.pinned.checked.prog 3 Tryz.f3 (OpenSpec.ofChange Rows.topShelvesSpec).bare Rows.topShelvesRow=true:=(fact_and (fact_and (fact_and (fact_and (fact_and (fact_and (fact_and (fact_and (fact_and (fact_and (fact_and (fact_and (fact_and (fact_and (fact_and (fact_and (fact_and (fact_and (fact_and (fact_and (fact_and (fact_and (fact_and (fact_and (fact_and (fact_and (fact_and (fact_and (fact_and (fact_and (fact_and own0 fact1) fact2) own3) own4) own5) fact6) own7) fact8) own9) own10) own11) own12) own13) own14) own15) own16) own17) own18) own19) own20) own21) fact22) own23) fact24) fact25) fact26) fact27) (by kernel_rfl)) own29) own30) own31)
theorem named:Tryz.pinned.checked.prog.funcNamed Rows.topShelvesRow.func=some 3:=by kernel_rfl
theorem named2 : Tryz.prog.funcNamed "stockyard/stockyardtop.TopShelves" = some 3 := by kernel_rfl
theorem inst:(Tryz.f3).isInstance Tryz.pinned.checked.prog Rows.topShelvesRow.origin Rows.topShelvesRow.targs:=of_decide_eq_true (by kernel_rfl)
theorem wrap:(Tryz.f3).isWrapper Tryz.pinned.checked.prog Rows.topShelvesRow.wrapper Rows.topShelvesRow.mainSum:=by unfold Func.isWrapper;first | (rw[if_pos (by decide +kernel)];kernel_rfl) | (rw[if_neg (by decide +kernel)];exact⟨rfl,rfl⟩)
theorem goes:false=Rows.topShelvesRow.goesBy Tryz.pinned.checked.prog:=by kernel_rfl
theorem said:Rows.TopShelvesSaid:=
 OpenClaim.holds_of_cond 3 Tryz.f3 rfl rfl rfl rfl rfl rfl rfl ⟨rfl,rfl,rfl,rfl,rfl⟩ rfl rfl rfl rfl rfl named Tryz.func3 closed
  inst wrap
  (fun os started H enc _ F=>by rw[OpenClaim.pre_eq_preRow];exact lifted os started H enc F)
theorem plain (f : FuncId) (fn : Func) (hf : Tryz.pinned.checked.prog.funcNamed "stockyard/stockyardtop.TopShelves" = some f) (hfn : Tryz.pinned.checked.prog.funcs[f]? = some fn) :
  false=Tryz.pinned.checked.prog.looks []∧∀(j:Nat) t,fn.params[j]?=some t→Tryz.pinned.checked.prog.wantsStandIn t=false:=by
 obtain rfl : f = 3 := Option.some.inj ((show Tryz.prog.funcNamed "stockyard/stockyardtop.TopShelves" = some 3 from named2).symm.trans hf) |>.symm
 obtain rfl:fn=Tryz.f3:=(Option.some.inj (Tryz.func3.symm.trans hfn)).symm
 refine⟨factLooks,fun j t ht=>?_⟩
 rw[Tryz.params3] at ht
 have hm:=Array.mem_of_getElem? ht
 simp only[List.mem_toArray,List.mem_cons,List.not_mem_nil,or_false] at hm
 rcases hm with rfl | rfl | rfl
 ·exact (show Tryz.prog.wantsStandIn 22=false by kernel_rfl)
 ·exact (show Tryz.prog.wantsStandIn 3=false by kernel_rfl)
 ·exact (show Tryz.prog.wantsStandIn 9=false by kernel_rfl)
theorem card:Rows.TopShelvesCardSaid:=
 Claim7.holds_tied_plain_at .later [] _ _ _ _ said (fun _ h=>by cases h) (by kernel_rfl) (fun _ h=>by cases h) topShelves_row_tie rfl ⟨rfl,rfl⟩ (by kernel_rfl) rfl plain goes
end Go.Proofs.YtcofdlipapnohaaGreatDoor.topShelves
