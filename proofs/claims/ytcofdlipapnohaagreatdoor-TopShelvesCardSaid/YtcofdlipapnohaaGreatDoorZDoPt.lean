/- Walk: put. -/
import Derived.BigRegion
import Derived.StillTailTactics
import Derived.Test.YtcofdlipapnohaaGreatDoorZHisF
import Derived.Test.YtcofdlipapnohaaGreatDoorZSrvN
import Derived.Test.YtcofdlipapnohaaGreatDoorZHisC
import Derived.Test.YtcofdlipapnohaaGreatDoorZEdRow
import Derived.Test.YtcofdlipapnohaaGreatDoorZSrvB
import Derived.Test.YtcofdlipapnohaaGreatDoorZCpSs
import Derived.Test.YtcofdlipapnohaaGreatDoorZDoNw
import Derived.Test.YtcofdlipapnohaaGreatDoorZSrvU
set_option linter.unusedVariables false
set_option linter.unusedSimpArgs false
namespace Go.Proofs.YtcofdlipapnohaaGreatDoor
open Go Go.RowKit Sy
set_option maxHeartbeats 4000000 in
theorem insRec_c (A:Option Addr) (c:Nat) (f:Value) (w:World):Calls Tryz.prog 189 #[.slice A 0 c,.int .i64 0,.int .i64 0,f] w fun e w'=>e=.returned (.tuple #[])∧w=w':=by
 go_enter Tryz.func189,Tryz.ntmps189
 go_wp2_with fail
 go_loopw [8] (fun i wr=>i=.int .i64 1∧wr=w) (fun _ _=>0)
 case atStart=>exact⟨rfl,rfl⟩
 case round=>
  obtain⟨rfl,rfl⟩:=hrel
  go_wp2_with fail
  exact bodyPost_end (v:=.tuple #[]) (results_none rfl _ _ _) rfl ⟨rfl,rfl⟩
set_option maxHeartbeats 4000000 in
theorem stabRec_c (A:Option Addr) (c:Nat) (f:Value) (w:World):Calls Tryz.prog 146 #[.slice A 0 c,.int .i64 0,f] w fun e w'=>e=.returned (.tuple #[])∧w=w':=by
 go_enter Tryz.func146,Tryz.ntmps146
 go_wp2_with fail
 go_loopw [7,8] (fun i j wr=>i=.int .i64 0∧j=.int .i64 20∧wr=w) (fun _ _ _=>0)
 case atStart=>exact⟨rfl,rfl,rfl⟩
 case round=>
  obtain⟨rfl,rfl,rfl⟩:=hrel
  go_wp2_with fail
  refine (insRec_c A c f _).mono ?_
  rintro e w' ⟨rfl,rfl⟩
  go_wp2_with fail
  go_loopw [6] (fun i w1=>i=.int .i64 20∧w1=wr) (fun _ _=>0)
  case atStart=>exact⟨rfl,rfl⟩
  case round=>
   obtain⟨rfl,rfl⟩:=hrel
   go_wp2_with fail
   exact bodyPost_end (v:=.tuple #[]) (results_none rfl _ _ _) rfl ⟨rfl,rfl⟩
set_option maxHeartbeats 4000000 in
theorem sortRec_c (A:Option Addr) (c:Nat) (f:Value) (w:World):Calls Tryz.prog 107 #[.slice A 0 c,f] w fun e w'=>e=.returned (.tuple #[])∧w=w':=by
 go_enter Tryz.func107,Tryz.ntmps107
 go_wp2_with fail
 refine (stabRec_c A c f _).mono ?_
 rintro e w' ⟨rfl,rfl⟩
 go_wp2_with fail
 exact bodyPost_end (v:=.tuple #[]) (results_none rfl _ _ _) rfl ⟨rfl,rfl⟩
set_option maxHeartbeats 4000000 in
theorem growRec_c (w:World):Calls Tryz.prog 145 #[.slice none 0 0,.int .i64 0] w fun e w'=>e=.returned (.slice none 0 0)∧w=w':=by
 go_enter Tryz.func145,Tryz.ntmps145
 go_wp2_with fail
 go_ret
 exact⟨rfl,rfl⟩
set_option maxRecDepth 100000 in
set_option maxHeartbeats 4000000 in
theorem concRec_c (b o:Nat) (w:World) (h0:w.cell? ⟨b,o,none⟩=some (.slice none 0 0)) (h1:w.cell? ⟨b,o+1,none⟩=some (.slice none 0 0)):Calls Tryz.prog 105 #[.slice (some ⟨b,o,none⟩) 2 2] w fun e w'=>e=.returned (.slice none 0 0)∧w=w':=by
 have hg:∀k,k < 2→w.cell? ⟨b,o+k,none⟩=some (.slice none 0 0):=fun k hk=>by
  obtain rfl | rfl:k=0∨k=1:=by omega
  ·exact h0
  ·exact h1
 have hap:∀ty (W:World),(Builtin.append_ #[43,43] ty #[.slice none 0 0,.slice none 0 0]).run Tryz.prog W=.ok (.slice none 0 0) W:=fun ty W=>by
  have hi:(Tryz.prog.info? 108).isSome=true:=by kernel_rfl
  obtain⟨i0,hi⟩:=Option.isSome_iff_exists.1 hi
  simp[Builtin.append_,run_underlying Tryz.underlying43,sizeOf,typeInfo,hi,Builtin.lenOf,Builtin.firstCells]
 clear h0 h1
 go_enter Tryz.func105,Tryz.ntmps105
 go_wp2_with fail
 go_loopw [3,11] (fun s i wr=>∃k:Nat,k≤2∧i=.int .i64 k∧s=.int .i64 0∧wr=w) (fun _ i _=>2 - (intOf i).toNat)
 case atStart=>exact⟨0,by decide,rfl,rfl,rfl⟩
 case round=>
  obtain⟨k,hk,rfl,rfl,rfl⟩:=hrel
  by_cases hlt:k < 2
  ·have hc:=hg k hlt
   go_wp2_with fail
   go_roundw
   case rel=>exact⟨k+1,by omega,by go_num,rfl,by first | rfl | trivial⟩
   case measure=>simp[intOf];omega
  ·obtain rfl:k=2:=by omega
   go_wp2_with fail
   refine (growRec_c _).mono ?_
   rintro e w' ⟨rfl,rfl⟩
   go_wp2_with fail
   go_loopw [6,27] (fun s i w1=>∃k:Nat,k≤2∧i=.int .i64 k∧s=.slice none 0 0∧w1=wr) (fun _ i _=>2 - (intOf i).toNat)
   case atStart=>exact⟨0,by decide,rfl,rfl,rfl⟩
   case round=>
    obtain⟨k,hk,rfl,rfl,rfl⟩:=hrel
    by_cases hlt:k < 2
    ·have hc:=hg k hlt
     have hap:=hap 43 wr
     go_wp2_with fail
     go_roundw
     case rel=>exact⟨k+1,by omega,by go_num,rfl,by first | rfl | trivial⟩
     case measure=>simp[intOf];omega
    ·obtain rfl:k=2:=by omega
     go_wp2_with fail
     go_ret
     exact⟨rfl,rfl⟩
def revVs (num:Int) (x:Edt):List Value:=[.string (bs x.path),.int .i64 1,.int .i64 num,.int .i64 x.act,.int .i64 x.tb,.bool x.tk,.bool x.tx,.bool x.te,.int .u64 x.sum,.int .i64 x.size,.string (bs x.frm),.int .i64 x.fn]
def revR (num:Int) (x:Edt):RowK 12:=⟨revVs num x,rfl,by simp[revVs,Value.oneCell']⟩
theorem look_emp2 {w:World} {M:Nat} (h:MapH w M 0 (.map [])) (s:Str) (hs:s.length≤1048576) :
  (Instr.lookup 228 (.map (some M)) (.string (bs s)) false).run Tryz.prog w=.ok (.agg #[.string ⟨#[]⟩,.int .i64 0,.int .i64 0,.int .i64 0,.int .i64 0,.bool false,.bool false,.bool false,.int .u64 0,.int .i64 0,.string ⟨#[]⟩,.int .i64 0]) w:=by
 obtain⟨v,ps,hrun,hv⟩:=World.ownsMap.lookup h keyS_law Tryz.underlying228 (zero_rev w) (show heldR (.agg #[.string ⟨#[]⟩,.int .i64 0,.int .i64 0,.int .i64 0,.int .i64 0,.bool false,.bool false,.bool false,.int .u64 0,.int .i64 0,.string ⟨#[]⟩,.int .i64 0])=some (.held (.agg #[.string ⟨#[]⟩,.int .i64 0,.int .i64 0,.int .i64 0,.int .i64 0,.bool false,.bool false,.bool false,.int .u64 0,.int .i64 0,.string ⟨#[]⟩,.int .i64 0]),[]) from rfl) (keyS_of s hs)
 have:v=.agg #[.string ⟨#[]⟩,.int .i64 0,.int .i64 0,.int .i64 0,.int .i64 0,.bool false,.bool false,.bool false,.int .u64 0,.int .i64 0,.string ⟨#[]⟩,.int .i64 0]:=by
  simp[heldR,DataW.atKey] at hv
  exact hv.1
 rw[hrun,this]
set_option maxRecDepth 100000 in
set_option maxHeartbeats 8000000 in
theorem revision_c (B M1 M2 M3:Nat) (num:Int) (cl tx:Str) (EA:Option Addr) (n c k:Nat) (D:DataW Value) (w:World) (h:CheckAt w B M1 M2 M3 num cl tx EA n c k D) (x:Edt) (hs:x.path.length≤1048576) :
  Calls Tryz.prog 106 #[.pointer (some ⟨B,0,none⟩),.agg (encEd x).toArray] w fun e w'=>e=.returned (.agg (revVs num x).toArray)∧Calm w w':=by
 obtain⟨p,act,tb,tk,te1,te,sum,size,base,frm,fn,fence⟩:=x
 simp only[encEd,revVs]
 simp only at hs
 obtain⟨w1,hw1⟩:∃w1,w1=(w.alloc (.cells #[.string (bs p),.int .i64 act,.int .i64 tb,.bool tk,.bool te1,.bool te,.int .u64 sum,.int .i64 size,.int .i64 base,.string (bs frm),.int .i64 fn,.int .i64 fence] 32)).alloc (.cells #[.string ⟨#[]⟩,.int .i64 0,.int .i64 0,.int .i64 0,.int .i64 0,.bool false,.bool false,.bool false,.int .u64 0,.int .i64 0,.string ⟨#[]⟩,.int .i64 0] 105):=⟨_,rfl⟩
 have hc1:Calm w w1:=by rw[hw1];exact ((Calm.refl w).alloc _).alloc _
 obtain⟨bx,hbx⟩:∃bx,bx=w.heap.size:=⟨_,rfl⟩
 have hz1:CellsB w1 bx [.string (bs p),.int .i64 act,.int .i64 tb,.bool tk,.bool te1,.bool te,.int .u64 sum,.int .i64 size,.int .i64 base,.string (bs frm),.int .i64 fn,.int .i64 fence]:=by
  have hz:=CellsB.new w #[.string (bs p),.int .i64 act,.int .i64 tb,.bool tk,.bool te1,.bool te,.int .u64 sum,.int .i64 size,.int .i64 base,.string (bs frm),.int .i64 fn,.int .i64 fence] 32
  rw[hw1,hbx]
  exact hz.calm ((Calm.refl _).alloc _)
 have h1:=h.calm hc1
 have HSX:Hid (∀W,Calm w1 W→W.cell? ⟨bx,0,none⟩=some (.string (bs p))∧W.cell? ⟨bx,1,none⟩=some (.int .i64 act)∧W.cell? ⟨bx,2,none⟩=some (.int .i64 tb)∧W.cell? ⟨bx,3,none⟩=some (.bool tk)∧W.cell? ⟨bx,4,none⟩=some (.bool te1)∧W.cell? ⟨bx,5,none⟩=some (.bool te)∧W.cell? ⟨bx,6,none⟩=some (.int .u64 sum)∧W.cell? ⟨bx,7,none⟩=some (.int .i64 size)∧W.cell? ⟨bx,9,none⟩=some (.string (bs frm))∧W.cell? ⟨bx,10,none⟩=some (.int .i64 fn)∧W.cell? ⟨B,2,none⟩=some (.int .i64 num)∧W.cell? ⟨B,7,none⟩=some (.map (some M1))∧(Instr.lookup 228 (.map (some M1)) (.string (bs p)) false).run Tryz.prog W=.ok (.agg #[.string ⟨#[]⟩,.int .i64 0,.int .i64 0,.int .i64 0,.int .i64 0,.bool false,.bool false,.bool false,.int .u64 0,.int .i64 0,.string ⟨#[]⟩,.int .i64 0]) W):=fun W hW=>by
  have hz:=hz1.calm hW
  have hh:=h1.calm hW
  exact⟨hz.at_ 0 _ rfl,hz.at_ 1 _ rfl,hz.at_ 2 _ rfl,hz.at_ 3 _ rfl,hz.at_ 4 _ rfl,hz.at_ 5 _ rfl,hz.at_ 6 _ rfl,hz.at_ 7 _ rfl,hz.at_ 9 _ rfl,hz.at_ 10 _ rfl,hh.z.at_ 2 _ rfl,hh.z.at_ 7 _ rfl,look_emp2 hh.last p hs⟩
 have HC1:=Lib.hid hc1
 have lB:=h.z.lt
 have HN:=CellsB.new (w.alloc (.cells #[.string (bs p),.int .i64 act,.int .i64 tb,.bool tk,.bool te1,.bool te,.int .u64 sum,.int .i64 size,.int .i64 base,.string (bs frm),.int .i64 fn,.int .i64 fence] 32)) #[.string ⟨#[]⟩,.int .i64 0,.int .i64 0,.int .i64 0,.int .i64 0,.bool false,.bool false,.bool false,.int .u64 0,.int .i64 0,.string ⟨#[]⟩,.int .i64 0] 105
 rw[←hw1] at HN
 clear h h1 hc1 hz1
 go_enter Tryz.func106,Tryz.ntmps106
 go_wp2_with fail
 rw[←hw1]
 obtain⟨bz,hbz⟩:∃bz,bz=w.heap.size+1:=⟨_,rfl⟩
 have hbb:¬bx=bz:=by omega
 have hBz:¬B=bz:=by omega
 rw[show (w.alloc (.cells #[.string (bs p),.int .i64 act,.int .i64 tb,.bool tk,.bool te1,.bool te,.int .u64 sum,.int .i64 size,.int .i64 base,.string (bs frm),.int .i64 fn,.int .i64 fence] 32)).heap.size=bz by rw[hbz];simp] at HN
 rw[←hbx] at hbz ⊢
 rw[←hbz]
 have HBx:=Lib.hid hbx
 have HBz:=Lib.hid hbz
 clear hbx hbz
 have HNh:=Lib.hid HN
 have z0:=HN.at_ 0 _ rfl
 have z1:=HN.at_ 1 _ rfl
 have z2:=HN.at_ 2 _ rfl
 have z3:=HN.at_ 3 _ rfl
 have z4:=HN.at_ 4 _ rfl
 have z5:=HN.at_ 5 _ rfl
 have z6:=HN.at_ 6 _ rfl
 have z7:=HN.at_ 7 _ rfl
 have z8:=HN.at_ 8 _ rfl
 have z9:=HN.at_ 9 _ rfl
 have z10:=HN.at_ 10 _ rfl
 have z11:=HN.at_ 11 _ rfl
 have f0:=HN.fz 0
 have f1:=HN.fz 1
 have f2:=HN.fz 2
 have f3:=HN.fz 3
 have f4:=HN.fz 4
 have f5:=HN.fz 5
 have f6:=HN.fz 6
 have f7:=HN.fz 7
 have f8:=HN.fz 8
 have f9:=HN.fz 9
 have f10:=HN.fz 10
 have f11:=HN.fz 11
 have hfld:∀W:World,(Instr.field 105 (.agg #[.string ⟨#[]⟩,.int .i64 0,.int .i64 0,.int .i64 0,.int .i64 0,.bool false,.bool false,.bool false,.int .u64 0,.int .i64 0,.string ⟨#[]⟩,.int .i64 0]) 1).run Tryz.prog W=.ok (.int .i64 0) W:=fun W=>by kernel_rfl
 clear HN hw1
 obtain⟨a0,a1,a2,a3,a4,a5,a6,a7,a9,a10,b2,b7,hlk⟩:=HSX.out w1.drew (Below.drew (Calm.refl _))
 obtain⟨a0',a1',a2',a3',a4',a5',a6',a7',a9',a10',b2',b7',hlk'⟩:=HSX.out w1 (Calm.refl _)
 go_still_tail 27,(by kernel_rfl)
 change wpList _ _ _ _ _ w1.drew
 go_wp2_with fail
 refine body_world (wf:=(w1.setCells bz 0 [.string (bs p),.int .i64 1,.int .i64 num,.int .i64 act,.int .i64 tb,.bool tk,.bool te1,.bool te,.int .u64 sum,.int .i64 size,.string (bs frm),.int .i64 fn]).drew) rfl ?_
 have hzf:=((HNh.out.put [.string (bs p),.int .i64 1,.int .i64 num,.int .i64 act,.int .i64 tb,.bool tk,.bool te1,.bool te,.int .u64 sum,.int .i64 size,.string (bs frm),.int .i64 fn] rfl).calm (Below.drew (Calm.refl _)))
 have hcf:Calm w (w1.setCells bz 0 [.string (bs p),.int .i64 1,.int .i64 num,.int .i64 act,.int .i64 tb,.bool tk,.bool te1,.bool te,.int .u64 sum,.int .i64 size,.string (bs frm),.int .i64 fn]).drew:=Below.drew (calm_set12 HC1.out (by have h1:=HBx.out;have h2:=HBz.out;omega) _ _ _ _ _ _ _ _ _ _ _ _)
 clear z0 z1 z2 z3 z4 z5 z6 z7 z8 z9 z10 z11 f0 f1 f2 f3 f4 f5 f6 f7 f8 f9 f10 f11 hlk hlk' hfld a0 a1 a2 a3 a4 a5 a6 a7 a9 a10 b2 b7 a0' a1' a2' a3' a4' a5' a6' a7' a9' a10' b2' b7' HSX
 generalize (w1.setCells bz 0 [.string (bs p),.int .i64 1,.int .i64 num,.int .i64 act,.int .i64 tb,.bool tk,.bool te1,.bool te,.int .u64 sum,.int .i64 size,.string (bs frm),.int .i64 fn]).drew=wf at hzf hcf ⊢
 have u0:=hzf.at_ 0 _ rfl
 have u1:=hzf.at_ 1 _ rfl
 have u2:=hzf.at_ 2 _ rfl
 have u3:=hzf.at_ 3 _ rfl
 have u4:=hzf.at_ 4 _ rfl
 have u5:=hzf.at_ 5 _ rfl
 have u6:=hzf.at_ 6 _ rfl
 have u7:=hzf.at_ 7 _ rfl
 have u8:=hzf.at_ 8 _ rfl
 have u9:=hzf.at_ 9 _ rfl
 have u10:=hzf.at_ 10 _ rfl
 have u11:=hzf.at_ 11 _ rfl
 refine bodyPost_ret (v:=.agg #[.string (bs p),.int .i64 1,.int .i64 num,.int .i64 act,.int .i64 tb,.bool tk,.bool te1,.bool te,.int .u64 sum,.int .i64 size,.string (bs frm),.int .i64 fn]) ?_ rfl ⟨rfl,hcf⟩
 rw[results_cell1 rfl]
 clear hzf hcf
 go_simp
set_option maxRecDepth 100000 in
set_option maxHeartbeats 4000000 in
theorem hmoves_c (B M1 M2 M3:Nat) (num:Int) (cl tx:Str) (EA:Option Addr) (n c k:Nat) (D:DataW Value) (w:World) (h:CheckAt w B M1 M2 M3 num cl tx EA n c k D) (l:List Edt) (hX:ReadX encEd 12 w EA l) (hl:l.length=n) (hact:∀x∈l,x.act=1) (hn:n≤64) :
  Calls Tryz.prog 142 #[.pointer (some ⟨B,0,none⟩)] w fun e w'=>e=.returned (.int .i64 0)∧Calm w w':=by
 have hmm:=@run_makeMap Tryz.prog
 have k5:=h.z.at_ 5 _ rfl
 have lB:=h.z.lt
 obtain⟨w1,hw1⟩:∃w1,w1=w.alloc (.map #[] 0):=⟨_,rfl⟩
 have hc1:Calm w w1:=by rw[hw1];exact (Calm.refl w).alloc _
 have k5':=Calm.at_ hc1 k5 lB
 have HX:Hid (ReadX encEd 12 w1 EA l):=hX.calm hc1
 have HL:=Lib.hid hl
 have HA:=Lib.hid hact
 have HC1:=Lib.hid hc1
 clear h hX hl hact k5
 go_enter Tryz.func142,Tryz.ntmps142
 rw[hw1] at k5'
 go_wp2_with fail
 rw[←hw1] at k5' ⊢
 have lB1:=Nat.lt_of_lt_of_le lB hc1.size
 clear hw1 lB hmm hc1
 go_loopw [15] (fun i wr=>∃j:Nat,j≤n∧i=.int .i64 j∧Hid (Calm w1 wr)) (fun i _=>n - (intOf i).toNat)
 case atStart=>exact⟨0,Nat.zero_le _,rfl,Calm.refl _⟩
 case round=>
  obtain⟨j,hj,rfl,HC⟩:=hrel
  by_cases hlt:j < n
  ·obtain⟨b,o,x,rfl,hb,hx,hat⟩:=edits_get HX.out (k:=j) (by rw[HL.out];exact hlt)
   have hat:=hat.calm hb HC.out
   have hb:=Nat.lt_of_lt_of_le hb HC.out.size
   have ha:=HA.out x (List.mem_of_getElem? hx)
   have c0:=hat.c0
   have c1:=hat.c1
   have c2:=hat.c2
   have c3:=hat.c3
   have c4:=hat.c4
   have c5:=hat.c5
   have c6:=hat.c6
   have c7:=hat.c7
   have c8:=hat.c8
   have c9:=hat.c9
   have c10:=hat.c10
   have c11:=hat.c11
   rw[ha] at c1
   clear hat hx ha
   go_wp2_with fail
   go_roundw
   case rel=>exact⟨j+1,by omega,by go_num,HC.out.alloc _⟩
   case measure=>simp[intOf];omega
  ·obtain rfl:j=n:=by omega
   have k5:=Calm.at_ HC.out k5' lB1
   have lB2:=Nat.lt_of_lt_of_le lB1 HC.out.size
   go_wp2_with fail
   go_loopw [34] (fun i wr=>∃m:Nat,m≤j∧i=.int .i64 m∧Hid (Calm w1 wr)) (fun i _=>j - (intOf i).toNat)
   case atStart=>exact⟨0,Nat.zero_le _,rfl,HC.out⟩
   case round=>
    obtain⟨m,hm,rfl,HC2⟩:=hrel
    by_cases hlt2:m < j
    ·obtain⟨b,o,x,rfl,hb,hx,hat⟩:=edits_get HX.out (k:=m) (by rw[HL.out];exact hlt2)
     have hat:=hat.calm hb HC2.out
     have hb:=Nat.lt_of_lt_of_le hb HC2.out.size
     have ha:=HA.out x (List.mem_of_getElem? hx)
     have c0:=hat.c0
     have c1:=hat.c1
     have c2:=hat.c2
     have c3:=hat.c3
     have c4:=hat.c4
     have c5:=hat.c5
     have c6:=hat.c6
     have c7:=hat.c7
     have c8:=hat.c8
     have c9:=hat.c9
     have c10:=hat.c10
     have c11:=hat.c11
     rw[ha] at c1
     clear hat hx ha
     go_wp2_with fail
     go_roundw
     case rel=>exact⟨m+1,by omega,by go_num,HC2.out.alloc _⟩
     case measure=>simp[intOf];omega
    ·obtain rfl:m=j:=by omega
     go_wp2_with fail
     go_ret
     exact⟨rfl,HC1.out.trans HC2.out⟩
theorem cloneNilRev_c (w:World):Calls Tryz.prog 46 #[.slice none 0 0] w fun e w'=>e=.returned (.slice none 0 0)∧w=w':=by
 have q25:∀(w:World) (a:Option Addr) (n c n' c':Nat),(binOp .eql 48 (.slice a n c) (.slice none n' c')).run Tryz.prog w=.ok (.bool a.isNone) w:=fun w a n c n' c'=>Lib.run_eql_slice_nil w _ _ a n c n' c' Tryz.underlying48
 go_enter Tryz.func46,Tryz.ntmps46
 go_wp2
 go_ret
 exact⟨rfl,rfl⟩
theorem cloneNilRec_c (w:World):Calls Tryz.prog 47 #[.slice none 0 0] w fun e w'=>e=.returned (.slice none 0 0)∧w=w':=by
 have q25:∀(w:World) (a:Option Addr) (n c n' c':Nat),(binOp .eql 43 (.slice a n c) (.slice none n' c')).run Tryz.prog w=.ok (.bool a.isNone) w:=fun w a n c n' c'=>Lib.run_eql_slice_nil w _ _ a n c n' c' Tryz.underlying43
 go_enter Tryz.func47,Tryz.ntmps47
 go_wp2
 go_ret
 exact⟨rfl,rfl⟩
def appE (num:Int) (l:List Edt):Int:=if sizeE l.length num≠0 then sizeE l.length num else everyE [] l
def hfn (k:Nat):Nat:=[140,141,142,143,144].getD k 0
def hstep (num:Int) (l:List Edt) (k:Nat):Int:=[sizeE l.length num,everyE [] l,0,0,0].getD k 0
theorem hfn_enter {k:Nat} (hk:k < 5) (args:Array Value) (w:World):(callFunc (hfn k) args).run Tryz.prog w=.ok (.enter (hfn k) args) w:=by
 match k,hk with
 |0,_=>exact enters_of Tryz.func140 (by kernel_rfl) rfl args w
 |1,_=>exact enters_of Tryz.func141 (by kernel_rfl) rfl args w
 |2,_=>exact enters_of Tryz.func142 (by kernel_rfl) rfl args w
 |3,_=>exact enters_of Tryz.func143 (by kernel_rfl) rfl args w
 |4,_=>exact enters_of Tryz.func144 (by kernel_rfl) rfl args w
def HisAt (w0 w:World) (B M1 M2 M3:Nat) (num:Int) (cl tx:Str) (EA:Option Addr) (n c:Nat) (j:Nat):Prop:=∃k D,CheckAt w B M1 M2 M3 num cl tx EA n c k D∧(j≤1→k≤1000)∧w0.grownBy w (some M2)
theorem hstep_c (num:Int) (cl tx:Str) (EA:Option Addr) (n c:Nat) (l:List Edt) (B M1 M2 M3:Nat) (w0 w:World) (k:Nat) (hk:k < 5) (h:HisAt w0 w B M1 M2 M3 num cl tx EA n c k) (hX:ReadX encEd 12 w0 EA l) (hl:l.length=n) (hn:n≤64)
  (hs:∀x∈l,x.path.length≤1048576∧x.frm.length≤1048576) (hEM:∀b o,EA=some ⟨b,o,none⟩→l≠[]→b≠M2) (hq:∀j,j < k→hstep num l j=0) :
  Calls Tryz.prog (hfn k) #[.pointer (some ⟨B,0,none⟩)] w fun e w'=>e=.returned (.int .i64 (hstep num l k))∧HisAt w0 w' B M1 M2 M3 num cl tx EA n c (k+1):=by
 obtain⟨kk,D,hck,hkk,hg⟩:=h
 have hX':ReadX encEd 12 w EA l:=fun hne=>by
  obtain⟨b,o,hA,hb,hc⟩:=hX hne
  exact⟨b,o,hA,Nat.lt_of_lt_of_le hb hg.size,fun j x hx i u hu=>hg.cell (hc j x hx i u hu) (fun e=>hEM b o hA hne (by cases e;rfl))⟩
 match k,hk with
 |0,_=>
  refine (hsize_c B M1 M2 M3 num cl tx EA n c kk D w hck).mono ?_
  rintro e w' ⟨he,hc⟩
  refine⟨by rw[he,←hl];rfl,kk,D,hck.calm hc,fun _=>hkk (by omega),hg.trans (hc.grew _)⟩
 |1,_=>
  have hne:l≠[]:=fun e=>by
   have h0:sizeE l.length num=0:=hq 0 (by omega)
   rw[e] at h0
   exact absurd h0 (by simp[sizeE])
  refine (everyEdit_c B M1 M2 M3 num cl tx EA n c kk D w hck l hX' hl hn (hkk (by omega)) hs (fun b o hA=>hEM b o hA hne)).mono ?_
  rintro e w' ⟨he,hg',k',D',hm⟩
  exact⟨he,k',D',hck.grew hg' hm,fun h=>by omega,hg.trans hg'⟩
 |2,_=>
  have h1:everyE [] l=0:=hq 1 (by omega)
  refine (hmoves_c B M1 M2 M3 num cl tx EA n c kk D w hck l hX' hl (everyE_add h1) hn).mono ?_
  rintro e w' ⟨he,hc⟩
  exact⟨he,kk,D,hck.calm hc,fun h=>by omega,hg.trans (hc.grew _)⟩
 |3,_=>
  refine (hrecords_c B M1 M2 M3 num cl tx EA n c kk D w hck).mono ?_
  rintro e w' ⟨he,hc⟩
  exact⟨he,kk,D,hck.calm hc,fun h=>by omega,hg.trans (hc.grew _)⟩
 |4,_=>
  refine (hroom_c B M1 M2 M3 num cl tx EA n c kk D w hck (by omega)).mono ?_
  rintro e w' ⟨he,hc⟩
  exact⟨he,kk,D,hck.calm hc,fun h=>by omega,hg.trans (hc.grew _)⟩
theorem appE_hit {num:Int} {l:List Edt} {k:Nat} (hk:k < 5) (hq:∀j,j < k→hstep num l j=0) (h:hstep num l k≠0):appE num l=hstep num l k:=by
 unfold appE
 match k,hk with
 |0,_=>exact if_pos h
 |1,_=>
  have h0:sizeE l.length num=0:=hq 0 (by omega)
  rw[if_neg (by simpa using h0)]
  rfl
 |2,_=>exact absurd rfl h
 |3,_=>exact absurd rfl h
 |4,_=>exact absurd rfl h
theorem appE_zero {num:Int} {l:List Edt} (hq:∀j,j < 5→hstep num l j=0):appE num l=0:=by
 unfold appE
 have h0:sizeE l.length num=0:=hq 0 (by omega)
 rw[if_neg (by simpa using h0)]
 exact hq 1 (by omega)
theorem CheckAt.kp {F:Nat→Prop} {w w':World} {B M1 M2 M3:Nat} {num:Int} {cl tx:Str} {EA:Option Addr} {n c k:Nat} {D:DataW Value} (h:CheckAt w B M1 M2 M3 num cl tx EA n c k D) (hc:Kp F w w') (hF:¬F B∧¬F M1∧¬F M2):CheckAt w' B M1 M2 M3 num cl tx EA n c k D:=
 ⟨h.z.kp hc hF.1,h.last.kp hc hF.2.1,h.edits.kp hc hF.2.2,h.ne⟩
theorem take_snoc_r {α:Type} {ls:List α} {k:Nat} {q:α} (hq:ls[k]?=some q):ls.take (k+1)=ls.take k++[q]:=by
 obtain⟨hlt,rfl⟩:=List.getElem?_eq_some_iff.1 hq
 exact List.take_succ_eq_append_getElem hlt
def AppEnd (num:Int) (l:List Edt) (w:World) (e:Ending) (w':World):Prop:=
 (appE num l≠0∧e=.returned (.tuple #[.agg #[.slice none 0 0,.slice none 0 0],.int .i64 (appE num l)])) ∨
 (appE num l=0∧∃A c,e=.returned (.tuple #[.agg #[.slice A l.length c,.slice none 0 0],.int .i64 0])∧OwnX RowK.vs 12 105 w w' (.slice A l.length c) (l.map (revR num)))
set_option maxRecDepth 100000 in
set_option maxHeartbeats 8000000 in
theorem append_c (num:Int) (cl tx:Str) (EA:Option Addr) (n c:Nat) (l:List Edt) (w:World) (hX:ReadX encEd 12 w EA l) (hl:l.length=n) (hn:n≤64)
  (hs:∀x∈l,x.path.length≤1048576∧x.frm.length≤1048576) :
  Calls Tryz.prog 72 #[.agg #[.slice none 0 0,.slice none 0 0],.agg #[.int .i64 num,.string (bs cl),.string (bs tx),.slice EA n c,.slice none 0 0]] w fun e w'=>AppEnd num l w e w'∧Calm w w':=by
 obtain⟨w3,hw3⟩:∃w3,w3=((w.alloc (.cells #[.slice none 0 0,.slice none 0 0] 50)).alloc (.cells #[.int .i64 num,.string (bs cl),.string (bs tx),.slice EA n c,.slice none 0 0] 60)).alloc (.cells #[.slice none 0 0,.slice none 0 0] 50):=⟨_,rfl⟩
 have hc3:Calm w w3:=by rw[hw3];exact (((Calm.refl w).alloc _).alloc _).alloc _
 obtain⟨P2,e2⟩:∃P2,w.heap.size=P2:=⟨_,rfl⟩
 obtain⟨P3,e3⟩:∃P3,P2+1=P3:=⟨_,rfl⟩
 obtain⟨P4,e4⟩:∃P4,P3+1=P4:=⟨_,rfl⟩
 have hb2:CellsB w3 P2 [.slice none 0 0,.slice none 0 0]:=by
  rw[hw3,←e2]
  exact ((CellsB.new w _ _).calm ((Calm.refl _).alloc _)).calm ((Calm.refl _).alloc _)
 have hb3:CellsB w3 P3 [.int .i64 num,.string (bs cl),.string (bs tx),.slice EA n c,.slice none 0 0]:=by
  rw[hw3,←e3,←e2]
  have:=CellsB.new (w.alloc (.cells #[.slice none 0 0,.slice none 0 0] 50)) #[.int .i64 num,.string (bs cl),.string (bs tx),.slice EA n c,.slice none 0 0] 60
  rw[World.size_alloc] at this
  exact this.calm ((Calm.refl _).alloc _)
 have hb4:CellsB w3 P4 [.slice none 0 0,.slice none 0 0]:=by
  rw[hw3,←e4,←e3,←e2]
  have:=CellsB.new ((w.alloc (.cells #[.slice none 0 0,.slice none 0 0] 50)).alloc (.cells #[.int .i64 num,.string (bs cl),.string (bs tx),.slice EA n c,.slice none 0 0] 60)) #[.slice none 0 0,.slice none 0 0] 50
  rw[World.size_alloc,World.size_alloc] at this
  exact this
 have lw3:w3.heap.size=P4+1:=by rw[hw3];simp[←e4,←e3,←e2]
 have HE:=Lib.hid (And.intro e2 (And.intro e3 e4))
 have HW:=Lib.hid hw3
 have HX:=Lib.hid hX
 have HL:=Lib.hid hl
 have HS:=Lib.hid hs
 have HC3:=Lib.hid hc3
 have HB:=Lib.hid (And.intro hb2 (And.intro hb3 hb4))
 have HZ3:=Lib.hid lw3
 clear hX hl hs hw3 hc3 e2 e3 e4 hb2 hb3 hb4 lw3
 have b20:=HB.out.1.at_ 0 _ rfl
 have b21:=HB.out.1.at_ 1 _ rfl
 have b30:=HB.out.2.1.at_ 0 _ rfl
 have b31:=HB.out.2.1.at_ 1 _ rfl
 have b32:=HB.out.2.1.at_ 2 _ rfl
 have b33:=HB.out.2.1.at_ 3 _ rfl
 have b34:=HB.out.2.1.at_ 4 _ rfl
 go_enter Tryz.func72,Tryz.ntmps72
 go_upto_region 1 with (fail)
 rw[←HW.out]
 simp only[HE.out.1,HE.out.2.1,HE.out.2.2]
 go_wp2_with fail
 refine (newCheck_c num cl tx EA n c w3).mono ?_
 rintro e w4 ⟨⟨B,M1,M2,M3,rfl,hB,hM2,hck⟩,hc4⟩
 have HCk:=Lib.hid hck
 have HC4:=Lib.hid hc4
 have HBM:=Lib.hid (And.intro hB hM2)
 clear hck hc4 hB hM2 b20 b21 b30 b31 b32 b33 b34
 go_wp2_with fail
 refine (hsteps_c B w4).mono ?_
 rintro e w5 ⟨⟨A5,rfl,hA5,hst⟩,hc5⟩
 have HSt:=Lib.hid hst
 have HC5:=Lib.hid hc5
 have HA5:=Lib.hid hA5
 have HH:Hid (HisAt w5 w5 B M1 M2 M3 num cl tx EA n c 0):=⟨0,.map [],HCk.out.calm hc5,fun _=>by omega,(Calm.refl w5).grew _⟩
 have HX5:=Lib.hid (HX.out.calm (HC3.out.trans (HC4.out.trans hc5)))
 have HEM:Hid (∀b o,EA=some ⟨b,o,none⟩→l≠[]→b≠M2):=fun b o hA hne=>by
  obtain⟨b',o',hA',hb',_⟩:=HX.out hne
  rw[hA] at hA'
  cases hA'
  have h1:=HBM.out.2
  have h2:=HC3.out.size
  omega
 have HBg:Hid (∀W,w5.grownBy W (some M2)→CellsB W P2 [.slice none 0 0,.slice none 0 0]∧CellsB W P3 [.int .i64 num,.string (bs cl),.string (bs tx),.slice EA n c,.slice none 0 0]∧CellsB W P4 [.slice none 0 0,.slice none 0 0]):=fun W hW=>by
  have hc:=HC4.out.trans hc5
  have h1:=HBM.out.2
  exact⟨(HB.out.1.calm hc).grown hW (fun e=>by cases e;have:=HB.out.1.lt;omega),(HB.out.2.1.calm hc).grown hW (fun e=>by cases e;have:=HB.out.2.1.lt;omega),(HB.out.2.2.calm hc).grown hW (fun e=>by cases e;have:=HB.out.2.2.lt;omega)⟩
 have HCg:Hid (∀W,w5.grownBy W (some M2)→Calm w W):=fun W hW=>by
  have h1:=HBM.out.2
  have h2:=HC3.out.size
  exact grown_calm (HC3.out.trans (HC4.out.trans hc5)) hW (by omega)
 clear hst hc5 hA5
 go_wp2_with fail
 go_loopw [19] (fun q wr=>∃k:Nat,k≤5∧q=.int .i64 k∧Hid (∀j,j < k→hstep num l j=0)∧Hid (HisAt w5 wr B M1 M2 M3 num cl tx EA n c k)) (fun q _=>5 - (intOf q).toNat)
 case atStart=>exact⟨0,Nat.zero_le _,rfl,(fun j hj=>absurd hj (Nat.not_lt_zero _)),HH.out⟩
 case round=>
  obtain⟨k,hk,rfl,HP,HHk⟩:=hrel
  have HGk:Hid (w5.grownBy wr (some M2)):=by
   obtain⟨_,_,_,_,hg⟩:=HHk.out
   exact hg
  have hA5:A5≠M2:=by
   have h1:=HA5.out
   have h2:=HC4.out
   obtain⟨_,_,hck,_,_⟩:=HHk.out
   have h3:=HCk.out.edits.lt
   omega
  by_cases hlt:k < 5
  ·obtain⟨fk,hfk⟩:∃fk,hfn k=fk:=⟨_,rfl⟩
   have c0:wr.cell? ⟨A5,k,none⟩=some (.func (.func fk) #[.pointer (some ⟨B,0,none⟩)] #[]):=by
    refine HGk.out.cell (HSt.out.at_ k _ ?_) (fun e=>hA5 (by cases e;rfl))
    rw[←hfk]
    match k,hlt with
    |0,_=>rfl
    |1,_=>rfl
    |2,_=>rfl
    |3,_=>rfl
    |4,_=>rfl
   have eg:∀args w,(callFunc fk args).run Tryz.prog w=.ok (.enter fk args) w:=by
    rw[←hfk]
    exact hfn_enter hlt
   obtain⟨x,hx⟩:∃x,hstep num l k=x:=⟨_,rfl⟩
   have KS:Hid (Calls Tryz.prog fk #[.pointer (some ⟨B,0,none⟩)] wr fun e w'=>e=.returned (.int .i64 x)∧HisAt w5 w' B M1 M2 M3 num cl tx EA n c (k+1)):=by
    have:=hstep_c num cl tx EA n c l B M1 M2 M3 w5 wr k hlt HHk.out HX5.out HL.out hn HS.out HEM.out HP.out
    rw[hfk,hx] at this
    exact this
   have HXx:=Lib.hid hx
   have lA:=HSt.out.lt
   have lr:=HGk.out.size
   clear hfk hx hA5
   by_cases hx0:x=0
   ·subst hx0
    go_wp2_with (go_at_fn fk;refine KS.out.mono ?_;rintro e w6 ⟨rfl,hh6⟩;have HH6:=Lib.hid hh6;clear hh6)
    go_roundw
    case rel=>
     refine⟨k+1,by omega,by go_num,(fun j hj=>?_),HH6.out⟩
     by_cases e:j=k
     ·subst e
      exact HXx.out
     ·exact HP.out j (by omega)
    case measure=>simp[intOf];omega
   ·have hxb:(x != 0)=true:=by simpa using hx0
    have hE:Hid (appE num l=x):=by
     show _=_
     rw[←HXx.out]
     exact appE_hit hlt HP.out (by rw[HXx.out];exact hx0)
    go_wp2_with (go_at_fn fk;refine KS.out.mono ?_;rintro e w6 ⟨rfl,hh6⟩;have hg6:Hid (w5.grownBy w6 (some M2)):=hh6.choose_spec.choose_spec.2.2;have hb6:=(HBg.out w6 hg6.out).2.2;have p0:=hb6.at_ 0 _ rfl;have p1:=hb6.at_ 1 _ rfl;have f0:=hb6.fz 0;have f1:=hb6.fz 1;have l6:=hb6.lt;clear hb6 hh6)
    refine bodyPost_ret (v:=.tuple #[.agg #[.slice none 0 0,.slice none 0 0],.int .i64 x]) ?_ rfl ⟨.inl ⟨by rw[hE.out];exact hx0,by rw[hE.out]⟩,?_⟩
    ·rw[results_cell_slot rfl]
     go_simp
    ·exact calm_set2 (HCg.out w6 hg6.out) (by have h1:=HE.out;omega) _ _
  ·have hE:Hid (appE num l=0):=appE_zero (fun i hi=>HP.out i (by omega))
   have hk5:decide ((k:Int) < 5)=false:=by simp;omega
   obtain⟨hb2,hb3,hb4⟩:=HBg.out wr HGk.out
   have a20:=hb2.at_ 0 _ rfl
   have a21:=hb2.at_ 1 _ rfl
   have a33:=hb3.at_ 3 _ rfl
   have a34:=hb3.at_ 4 _ rfl
   have l2:=hb2.lt
   have l3:=hb3.lt
   have HB4:=Lib.hid hb4
   have HB3:=Lib.hid hb3
   clear hb2 hb3 hb4 hA5
   go_upto_region 9 with (fail)
   go_cut [10] (fun s wx=>∃b,s=.pointer (some ⟨b,0,none⟩)∧Hid (wr.heap.size≤b)∧Hid (CellsB wx b [.slice none 0 0,.slice none 0 0])∧Hid (Calm wr wx))
   case first=>
    have HS9:Hid (∀W,Calm wr W→W.cell? ⟨P2,0,none⟩=some (.slice none 0 0)∧W.cell? ⟨P2,1,none⟩=some (.slice none 0 0)∧W.cell? ⟨P3,4,none⟩=some (.slice none 0 0)):=fun W hW=>⟨hW.at_ a20 l2,hW.at_ a21 l2,hW.at_ a34 l3⟩
    go_region_held3 (fun W=>W.cell? ⟨P2,0,none⟩=some (.slice none 0 0)∧W.cell? ⟨P2,1,none⟩=some (.slice none 0 0)∧W.cell? ⟨P3,4,none⟩=some (.slice none 0 0))
     (first
      |with_reducible exact HS9.out _ (Calm.refl _)
      |with_reducible exact HS9.out _ (Below.drew (Calm.refl _))
      |with_reducible exact HS9.out _ (Calm.alloc (Calm.refl _) _)
      |with_reducible exact HS9.out _ (Below.drew (Calm.alloc (Calm.refl _) _))
      |with_reducible exact HS9.out _ (Calm.alloc (Calm.alloc (Calm.refl _) _) _)
      |with_reducible exact HS9.out _ (Below.drew (Calm.alloc (Calm.alloc (Calm.refl _) _) _))
      |go_keep)
     (first
      |(go_at_call 46;refine (cloneNilRev_c _).mono ?_;rintro e w' ⟨rfl,rfl⟩)
      |(go_at_call 105;refine (concRec_c _ 0 _ (by simp[go_sem]) (by simp[go_sem])).mono ?_;rintro e w' ⟨rfl,rfl⟩))
    all_goals
     go_wp2_with fail
     go_meet
     case rel=>exact⟨_,rfl,(by show wr.heap.size≤_;omega),(by first | exact cells_new1 wr _ _ _ | exact cells_new0 wr _ _ _),Below.drew (((Calm.refl wr).alloc _).alloc _)⟩
   case rest=>
    obtain⟨P10,rfl,HP10,HB10,HC10⟩:=hcut
    obtain⟨w10,rfl⟩:∃w10,w10=wc:=⟨_,rfl⟩
    have HCw:Hid (Calm w w10):=(HCg.out wr HGk.out).trans HC10.out
    have HK10:Hid (∀W,Kp (fun i=>i=P10) w10 W→∃D kk,CheckAt W B M1 M2 M3 num cl tx EA n c kk D):=fun W hW=>by
     obtain⟨kk,D,hck,_,_⟩:=HHk.out
     have h1:=HP10.out
     have h2:=hck.z.lt
     have h3:=hck.last.lt
     have h4:=hck.edits.lt
     exact⟨D,kk,(hck.calm HC10.out).kp hW ⟨by omega,by omega,by omega⟩⟩
    have HX10:Hid (∀W,Kp (fun i=>i=P10) w10 W→ReadX encEd 12 W EA l):=fun W hW hne=>by
     obtain⟨b,o,hA,hb,hc⟩:=HX.out hne
     have h1:=HP10.out
     have h2:=(HCg.out wr HGk.out).size
     exact⟨b,o,hA,Nat.lt_of_lt_of_le hb (Nat.le_trans HCw.out.size hW.size),fun j x hx i u hu=>hW.cell (HCw.out.at_ (hc j x hx i u hu) hb) (by show ¬b=P10;omega)⟩
    have HP3:Hid (∀W,Kp (fun i=>i=P10) w10 W→W.cell? ⟨P3,3,none⟩=some (.slice EA n c)):=fun W hW=>by
     have h1:=HP10.out
     have h2:=HB3.out.lt
     exact hW.cell ((HB3.out.calm HC10.out).at_ 3 _ rfl) (by show ¬P3=P10;omega)
    have hPw:Hid (w.heap.size≤P10):=Nat.le_trans (HCg.out wr HGk.out).size HP10.out
    have b33:=HP3.out w10 (Kp.refl _ _)
    have l33:=Nat.lt_of_lt_of_le l3 HC10.out.size
    clear a20 a21 a33 a34 l2 l3
    go_upto_region 10 with (fail)
    go_wp2_with fail
    go_loopw [43] (fun q wr=>∃(j:Nat) (v:Value),j≤n∧q=.int .i64 j∧Hid (Kp (fun i=>i=P10) w10 wr)∧Hid (CellsB wr P10 [v,.slice none 0 0])∧Hid (wr.ownsRow w10.heap.size 105 12 v j (encs RowK.vs ((l.take j).map (revR num))))) (fun q _=>n - (intOf q).toNat)
    case atStart=>exact⟨0,.slice none 0 0,Nat.zero_le _,rfl,Kp.refl _ _,HB10.out,World.ownsRow_nil _ _ _ _⟩
    case round=>
     obtain⟨j,v,hj,rfl,HKp,HV,HOw⟩:=hrel
     obtain⟨wq,rfl⟩:∃wq,wq=wr:=⟨_,rfl⟩
     by_cases hlt:j < n
     ·obtain⟨b,o,x,rfl,hb,hx,hat⟩:=edits_get (HX10.out wq HKp.out) (k:=j) (by rw[HL.out];exact hlt)
      have c0:=hat.c0
      have c1:=hat.c1
      have c2:=hat.c2
      have c3:=hat.c3
      have c4:=hat.c4
      have c5:=hat.c5
      have c6:=hat.c6
      have c7:=hat.c7
      have c8:=hat.c8
      have c9:=hat.c9
      have c10:=hat.c10
      have c11:=hat.c11
      have HXx:=Lib.hid hx
      obtain⟨w11,hw11⟩:∃w11,w11=wq.alloc (.cells #[.string (bs x.path),.int .i64 x.act,.int .i64 x.tb,.bool x.tk,.bool x.tx,.bool x.te,.int .u64 x.sum,.int .i64 x.size,.int .i64 x.base,.string (bs x.frm),.int .i64 x.fn,.int .i64 x.fence] 32):=⟨_,rfl⟩
      obtain⟨P12,e12⟩:∃P12,wq.heap.size=P12:=⟨_,rfl⟩
      have hz11:CellsB w11 P12 [.string (bs x.path),.int .i64 x.act,.int .i64 x.tb,.bool x.tk,.bool x.tx,.bool x.te,.int .u64 x.sum,.int .i64 x.size,.int .i64 x.base,.string (bs x.frm),.int .i64 x.fn,.int .i64 x.fence]:=by
       rw[hw11,←e12]
       exact CellsB.new wq _ _
      have hc11:Calm wq w11:=by rw[hw11];exact (Calm.refl _).alloc _
      have HW11:=Lib.hid hw11
      have HE12:=Lib.hid e12
      have hv11:=HV.out.calm hc11
      have HC11:=Lib.hid hc11
      clear hat hx hw11 e12 hc11
      go_upto_region 13 with (fail)
      rw[←HW11.out,HE12.out]
      clear c0 c1 c2 c3 c4 c5 c6 c7 c8 c9 c10 c11
      have KR:Hid (∀W,Calm w11 W→Calls Tryz.prog 106 #[.pointer (some ⟨B,0,none⟩),.agg #[.string (bs x.path),.int .i64 x.act,.int .i64 x.tb,.bool x.tk,.bool x.tx,.bool x.te,.int .u64 x.sum,.int .i64 x.size,.int .i64 x.base,.string (bs x.frm),.int .i64 x.fn,.int .i64 x.fence]] W fun e w'=>e=.returned (.agg (revVs num x).toArray)∧Calm w11 w'):=fun W hW=>by
       obtain⟨D,kk,hck⟩:=HK10.out W ((HKp.out.then_calm HC11.out).then_calm hW)
       exact (revision_c B M1 M2 M3 num cl tx _ n c kk D W hck x (HS.out x (List.mem_of_getElem? HXx.out)).1).mono fun e w' ⟨h1,h2⟩=>⟨h1,hW.trans h2⟩
      have t0:=hz11.at_ 0 _ rfl
      have t1:=hz11.at_ 1 _ rfl
      have t2:=hz11.at_ 2 _ rfl
      have t3:=hz11.at_ 3 _ rfl
      have t4:=hz11.at_ 4 _ rfl
      have t5:=hz11.at_ 5 _ rfl
      have t6:=hz11.at_ 6 _ rfl
      have t7:=hz11.at_ 7 _ rfl
      have t8:=hz11.at_ 8 _ rfl
      have t9:=hz11.at_ 9 _ rfl
      have t10:=hz11.at_ 10 _ rfl
      have t11:=hz11.at_ 11 _ rfl
      have v0:=hv11.at_ 0 _ rfl
      have vf:=hv11.fz 0
      have lv:=hv11.lt
      have lt:=hz11.lt
      have HZ11:=Lib.hid hz11
      have HV11:=Lib.hid hv11
      clear hz11 hv11
      have HOA:Hid (∀W,Calm w11 W→W.ownsRow w10.heap.size 105 12 v j (encs RowK.vs ((l.take j).map (revR num)))∧w10.heap.size≤W.heap.size):=fun W hW=>
       ⟨owns_calm HOw.out (HC11.out.trans hW),Nat.le_trans HKp.out.size (HC11.out.trans hW).size⟩
      have HVb:Hid (∀g,v.ownBlock=some g→g≠P10∧g≠P12):=fun g hg=>by
       have h1:=HOw.out.lt g hg
       have h2:=HB10.out.lt
       have h3:=HE12.out
       exact⟨by omega,by omega⟩
      have HFz:Hid (∀W U,Calm w11 W→W.grownBy U v.ownBlock→U.frozen? ⟨P10,0,none⟩=false):=fun W U hW hg=>((HV11.out.calm hW).grown hg (fun e=>(HVb.out P10 e.symm).1 rfl)).fz 0
      have HC10':Hid (∀W U,Calm w11 W→W.grownBy U v.ownBlock→U.cell? ⟨P10,0,none⟩=some v):=fun W U hW hg=>((HV11.out.calm hW).grown hg (fun e=>(HVb.out P10 e.symm).1 rfl)).at_ 0 _ rfl
      have HP0:Hid (∀W,Calm w11 W→W.cell? ⟨P10,0,none⟩=some v∧P10 < W.heap.size):=fun W hW=>⟨(HV11.out.calm hW).at_ 0 _ rfl,(HV11.out.calm hW).lt⟩
      unfold revVs at KR
      go_region_law (first
       |(refine step_go_call rfl 106 #[.pointer (some ⟨B,0,none⟩),.agg #[.string (bs x.path),.int .i64 x.act,.int .i64 x.tb,.bool x.tk,.bool x.tx,.bool x.te,.int .u64 x.sum,.int .i64 x.size,.int .i64 x.base,.string (bs x.frm),.int .i64 x.fn,.int .i64 x.fence]] (by go_simp) _ _ (KR.out _ (Below.drew (Calm.refl _))) ?_;intro w12 hc12;obtain⟨q12,l12⟩:=HP0.out w12 hc12)
       |(refine step_append_ow Tryz.underlying48 infoK_Revision rfl (by decide) (by decide) rfl (.tmp 48) (.tmp 52) rfl w10.heap.size v j _ (by simp[Act.eval,Act.put]) (HOA.out _ (Calm.alloc hc12 _)).1 w12.heap.size 1 (by simp[Act.eval,Act.put]) [.string (bs x.path),.int .i64 1,.int .i64 num,.int .i64 x.act,.int .i64 x.tb,.bool x.tk,.bool x.tx,.bool x.te,.int .u64 x.sum,.int .i64 x.size,.string (bs x.frm),.int .i64 x.fn] rfl (fun i u hu=>by rw[cell_of_row _ w12.heap.size _ _ _ _ (heap_alloc_new w12 _)];simpa using hu) (by simp[Value.oneCell']) (by omega) (HOA.out _ (Calm.alloc hc12 _)).2 ?_;intro v13 w13 hown13 hg13;obtain⟨A13,c13,hv13,hn13,hm13⟩:=owns_shape hown13;subst hv13;have fz13:=HFz.out _ _ (Calm.alloc hc12 _) hg13;have q13:=HC10'.out _ _ (Calm.alloc hc12 _) hg13))
      all_goals
       have HEn:Hid (Kp (fun i=>i=P10) w10 (w13.setCell ⟨P10,0,none⟩ (.slice A13 (j+1) c13))∧CellsB (w13.setCell ⟨P10,0,none⟩ (.slice A13 (j+1) c13)) P10 [.slice A13 (j+1) c13,.slice none 0 0]∧(w13.setCell ⟨P10,0,none⟩ (.slice A13 (j+1) c13)).ownsRow w10.heap.size 105 12 (.slice A13 (j+1) c13) (j+1) (encs RowK.vs ((l.take (j+1)).map (revR num)))):=by
        have k2:Kp (fun i=>i=P10) w10 w13:=Kp.trans' (((HKp.out.then_calm HC11.out).then_calm hc12).alloc _) (Kp.grown (F:=fun i=>v.ownBlock=some i) hg13 (fun i hi=>.inl hi)) (fun i hi=>.inr (HOw.out.lt i hi).1)
        refine⟨k2.set (.inl rfl) _,?_,?_⟩
        ·exact ((HV11.out.calm (Calm.alloc hc12 _)).grown hg13 (fun e=>(HVb.out P10 e.symm).1 rfl)).setc 0 _ (by simp)
        ·rw[take_snoc_r HXx.out,List.map_append,encs_app]
         have:=owns_set1 hown13 HB10.out.lt 0 (.slice A13 (j+1) c13)
         simpa[encs,revR,revVs] using this
       clear hown13 hg13 fz13 q13 q12 l12 hc12 v0 vf lv lt t0 t1 t2 t3 t4 t5 t6 t7 t8 t9 t10 t11
       go_wp2_with fail
       go_roundw
       case rel=>exact⟨j+1,_,by omega,by go_num,HEn.out.1,HEn.out.2.1,HEn.out.2.2⟩
       case measure=>simp[intOf];omega
     ·obtain rfl:j=n:=by omega
      obtain⟨A,cA,rfl,hnA,hmA⟩:=owns_shape HOw.out
      have v0:=HV.out.at_ 0 _ rfl
      have v1:=HV.out.at_ 1 _ rfl
      have lv:=HV.out.lt
      have h4:CellsB wq P4 [.slice none 0 0,.slice none 0 0]:=(HB4.out.calm HC10.out).kp HKp.out (by have h1:=HP10.out;have h2:=HB4.out.lt;show ¬P4=P10;omega)
      have p40:=h4.at_ 0 _ rfl
      have p41:=h4.at_ 1 _ rfl
      have f40:=h4.fz 0
      have f41:=h4.fz 1
      have l4:=h4.lt
      clear h4
      go_wp2_with fail
      refine (sortRec_c none 0 _ wq).mono ?_
      rintro e w14 ⟨rfl,rfl⟩
      go_wp2_with fail
      refine bodyPost_ret (v:=.tuple #[.agg #[.slice A j cA,.slice none 0 0],.int .i64 0]) ?_ rfl ⟨.inr ⟨hE.out,A,cA,by rw[HL.out],?_⟩,?_⟩
      ·rw[results_cell_slot rfl]
       go_simp
      ·refine⟨calm_set2 (Kp.calm' HCw.out HKp.out (fun i hi=>by have h1:=hPw.out;have h2:i=P10:=hi;omega)) (by have h1:=HE.out;omega) _ _,?_⟩
       have h1:=owns_mono (owns_set1 (owns_set1 HOw.out (p:=P4) (by have h1:=HB4.out.lt;have h2:=HC10.out.size;omega) 0 (.slice A j cA)) (p:=P4) (by have h1:=HB4.out.lt;have h2:=HC10.out.size;omega) 1 (.slice none 0 0)) HCw.out.size
       rw[List.take_of_length_le (by rw[HL.out];exact Nat.le_refl _)] at h1
       rw[List.length_map,HL.out]
       exact h1
      ·exact calm_set2 (Kp.calm' HCw.out HKp.out (fun i hi=>by have h1:=hPw.out;have h2:i=P10:=hi;omega)) (by have h1:=HE.out;omega) _ _
def PutEd (w:World) (x:Srv) (p:Pnd) (l:List Edt) (e:Ending) (w':World):Prop:=
 (suitE none l≠0∧e=.returned (.tuple #[rep0,.int .i64 (suitE none l)])∧Went w x w' x) ∨
 (suitE none l=0∧e=.returned (.tuple #[rep0,.int .i64 0])∧∃A ec,Went w x w' { x with ps:=[{ p with EA:=A,ec:=ec,l:=l }] }∧Stays (fun i=>i < w.heap.size) w' (fun U=>ReadX encEd 12 U A l))
theorem edits_rows {w:World} {A:Option Addr} {l:List Edt} (h:ReadX RowK.vs 12 w A (l.map Edt.row)):ReadX encEd 12 w A l:=fun hne=>by
 obtain⟨b,o,hA,hb,hk⟩:=h (fun e=>hne (by simpa using e))
 refine⟨b,o,hA,hb,fun k x hx i u hu=>hk k x.row (by rw[List.getElem?_map,hx];rfl) i u hu⟩
set_option maxRecDepth 100000 in
set_option maxHeartbeats 16000000 in
theorem doPut_c (x:Srv) (p:Pnd) (c:Cmd) (l:List Edt) (i:Nat) (w:World) (h:SrvAt w x) (hss:x.ss=mainS) (hp:x.ps=[p]) (hn:p.num=c.num) (hsh:p.sh=false) (h2:x.cs.length≤2) (hci:bsC x.cs c.cl=((i:Int),true)) (hcs:x.cs[i]?=some c.cl)
  (hX:ReadX encEd 12 w c.EA l) (hl:l.length=c.en) (hln:c.en≤64) (hs:∀y∈l,y.path.length≤1048576∧y.frm.length≤1048576) (hM:MaxL w) :
  Calls Tryz.prog 25 #[.pointer (some ⟨x.S,0,none⟩),cmV c] w fun e w'=>PutEd w x p l e w':=by
 obtain⟨g,hg,hpc⟩:=h.pnAt hp
 have K:=Lib.hid fun (W:World) (hW:Calm w W)=>own_c x p c g W (h.calm hW) hp hg hn
 have KC:Hid (∀W,Calm w W→Calls Tryz.prog 15 #[.pointer (some ⟨x.S,0,none⟩),.string (bs c.cl)] W fun e w'=>e=.returned (.tuple #[.int .i64 (i:Int),.bool true])∧Calm W w'):=fun W hW=>by
  have:=client_c x c.cl W (h.calm hW) h2
  rw[hci] at this
  exact this
 have KS:Hid (∀W,Calm w W→Calls Tryz.prog 68 #[.pointer (some ⟨x.S,0,none⟩),.agg #[.string (bs c.cl),.string ⟨#[109,97,105,110]⟩,.slice none 0 0],.slice c.EA c.en c.ec] W fun e w'=>e=.returned (.int .i64 (suitE none l))∧Calm W w'):=fun W hW=>
  suit_c x c.cl l c.EA c.en c.ec W (h.calm hW) hss (hX.calm hW) hl hln hs (hM.calm hW)
 have KE:Hid (∀W,Calm w W→Calls Tryz.prog 70 #[.slice c.EA c.en c.ec] W fun e w'=>CloneK 12 32 W (l.map Edt.row) c.en e w'):=fun W hW=>
  cloneEdit_c (l.map Edt.row) c.EA c.en c.ec W (read_row (hX.calm hW)) (by rw[List.length_map];exact hl) (by omega)
 have HG:Hid (∀W,Calm w W→W.cell? ⟨g,3,none⟩=some (.bool false)∧W.cell? ⟨g,4,none⟩=some (.slice p.EA p.l.length p.ec)∧W.cell? ⟨g,5,none⟩=some (.slice none 0 0)∧W.frozen? ⟨g,4,none⟩=false∧W.frozen? ⟨g,5,none⟩=false∧g < W.heap.size):=fun W hW=>by
  have h1:=(h.calm hW).pns hp
  have h2:=(h.calm hW).pn
  obtain⟨b,o,hA,hb,hk⟩:=h1 (by simp)
  rw[hg] at hA h2
  cases hA
  have h3:=hk 0 p rfl 3 _ rfl
  rw[hsh] at h3
  obtain⟨cur,hgg⟩:∃cur,W.heap[g]?=some (.cells cur 58 (0,0)):=by
   rcases h2.2 with⟨h5,_⟩ | ⟨g',cap,cur,hv,_,hgg,_⟩
   ·cases h5
   ·cases hv
    exact⟨cur,hgg⟩
  exact⟨h3,hk 0 p rfl 4 _ rfl,hk 0 p rfl 5 _ rfl,frozen_of_row _ _ _ _ _ hgg,frozen_of_row _ _ _ _ _ hgg,hb⟩
 have HCl:Hid (∀W,Calm w W→∃b o,x.CA=some ⟨b,o,none⟩∧W.cell? ⟨b,o+i * 3,none⟩=some (.string (bs c.cl))∧W.cell? ⟨b,o+i * 3+1,none⟩=some (.string ⟨#[109,97,105,110]⟩)∧W.cell? ⟨b,o+i * 3+2,none⟩=some (.slice none 0 0)∧W.cell? ⟨x.S,3,none⟩=some (.slice x.CA x.cs.length x.cc)∧x.S < W.heap.size∧b < W.heap.size):=fun W hW=>by
  have h1:=(h.calm hW).cls
  obtain⟨b,o,hA,hb,hk⟩:=h1 (fun e=>by rw[e] at hcs;simp at hcs)
  exact⟨b,o,hA,hk i _ hcs 0 _ rfl,hk i _ hcs 1 _ rfl,hk i _ hcs 2 _ rfl,(h.calm hW).z.at_ 3 _ rfl,(h.calm hW).z.lt,hb⟩
 obtain⟨cb,co,hCA,_⟩:=HCl.out w (Calm.refl w)
 have hil:i < x.cs.length:=(List.getElem?_eq_some_iff.1 hcs).1
 have HB:=Lib.hid (CmBox.new w c)
 have hO:=(CmBox.new w c).off h
 have HO:=Lib.hid hO
 have HSv:=Lib.hid h
 have HP:=Lib.hid hp
 have HPg:=Lib.hid hg
 have HL:=Lib.hid hl
 have h64:¬(64:Int) < (c.en:Int):=by omega
 clear h hss hp hn hsh h2 hci hcs hX hl hs hM hg hpc hO
 go_enter Tryz.func25,Tryz.ntmps25
 go_wp2_with fail
 refine (K.out (cmBox w c) HB.out.calm).mono ?_
 rintro e w5 ⟨rfl,hc5⟩
 have hb5:=HB.out.to hc5
 obtain⟨g3,_,_,_,_,gl⟩:=HG.out w5 hb5.calm
 have HB5:=Lib.hid hb5
 have t1:=hb5.c.at_ 1 _ rfl
 have t12:=hb5.c.at_ 12 _ rfl
 have t13:=hb5.c.at_ 13 _ rfl
 have lt:=hb5.c.lt
 clear hc5 hb5
 go_wp2_with fail
 refine (KC.out w5 HB5.out.calm).mono ?_
 rintro e w6 ⟨rfl,hc6⟩
 have hb6:=HB5.out.to hc6
 have HB6:=Lib.hid hb6
 obtain⟨cb',co',hCA',k0,k1,k2,kS,lS,lcb⟩:=HCl.out w6 hb6.calm
 rw[hCA] at hCA'
 cases hCA'
 rw[hCA] at kS
 have t12:=hb6.c.at_ 12 _ rfl
 have lt:=hb6.c.lt
 clear hc6 hb6 g3 t1 t13 gl
 go_wp2_with fail
 obtain⟨se,hse⟩:∃se,suitE none l=se:=⟨_,rfl⟩
 have HSe:=Lib.hid hse
 obtain⟨ncs,hncs⟩:∃ncs,x.cs.length=ncs:=⟨_,rfl⟩
 rw[hncs] at kS hil
 have hil1:(i:Int) < (ncs:Int):=by omega
 have KS2:Hid (∀p:CalmTo w6,Calls Tryz.prog 68 #[.pointer (some ⟨x.S,0,none⟩),.agg #[.string (bs c.cl),.string ⟨#[109,97,105,110]⟩,.slice none 0 0],.slice c.EA c.en c.ec] p.w fun e w'=>e=.returned (.int .i64 se)∧Calm p.w w'):=fun p=>by
  have:=KS.out p.w (HB6.out.calm.trans p.h)
  rw[hse] at this
  exact this
 have e0:=fun p:CalmTo w6=>p.cell k0 lcb
 have e1:=fun p:CalmTo w6=>p.cell k1 lcb
 have e2:=fun p:CalmTo w6=>p.cell k2 lcb
 have e3:=fun p:CalmTo w6=>p.cell kS lS
 have e4:=fun p:CalmTo w6=>p.cell t12 lt
 clear k0 k1 k2 kS lS lcb t12 lt hse hncs
 refine wp_region_calm (by kernel_rfl) (by kernel_rfl) ?_
 repeat (go_big_quiet_step ((go_at_call 68;with_reducible exact calmOf (KS2.out _))))
 refine wpQuiet_nil ?_
 intro w7 hc7
 have hb7:=HB6.out.to hc7
 have HB7:=Lib.hid hb7
 clear e0 e1 e2 e3 e4 hc7
 by_cases h0:se=0
 ·subst h0
  have t13:=hb7.c.at_ 13 _ rfl
  have lt:=hb7.c.lt
  clear hb7
  go_wp2_with fail
  refine (recorded_c _).mono ?_
  rintro e w8 ⟨rfl,rfl⟩
  have t12:=HB7.out.c.at_ 12 _ rfl
  obtain⟨g3,g4,g5,gf4,gf5,gl⟩:=HG.out w7 HB7.out.calm
  have HGf:=Lib.hid fun (W:World) (hW:Calm w7 W)=>HG.out W (HB7.out.calm.trans hW)
  have HBf:Hid (∀W,Calm w7 W→W.cell? ⟨w.heap.size,13,none⟩=some (.slice none 0 0)∧w.heap.size < W.heap.size):=fun W hW=>⟨(HB7.out.to hW).c.at_ 13 _ rfl,(HB7.out.to hW).c.lt⟩
  have KE7:Hid (∀W,Calm w7 W→Calls Tryz.prog 70 #[.slice c.EA c.en c.ec] W fun e w'=>CloneK 12 32 W (l.map Edt.row) c.en e w'):=fun W hW=>KE.out W (HB7.out.calm.trans hW)
  go_upto_region 12 with (fail)
  go_cut [] (fun wx=>∃A8 c8 w8,wx=(w8.setCell ⟨g,4,none⟩ (.slice A8 c.en c8)).setCell ⟨g,5,none⟩ (.slice none 0 0)∧Hid (OwnX RowK.vs 12 32 w7.drew w8 (.slice A8 c.en c8) (l.map Edt.row)))
  case first=>
   have e0:=t12
   clear HGf
   go_region_law (first
    |(refine step_go_f rfl 70 _ _ rfl #[.slice c.EA c.en c.ec] (by go_simp) (KE7.out _ (Below.drew (Calm.refl _))) ?_;rintro e w8 ⟨A8,c8,rfl,hown⟩;refine⟨_,rfl,?_⟩;have hc8:Calm w7 w8:=Calm.trans (Below.drew (Calm.refl w7)) hown.calm;obtain⟨q13,ql⟩:=HBf.out w8 hc8;obtain⟨_,g4,g5,gf4,gf5,gl⟩:=HG.out w8 (HB7.out.calm.trans hc8);have HO8:=Lib.hid hown;clear hown)
    |(refine step_go_f rfl 47 _ _ rfl #[.slice none 0 0] (by go_simp) (cloneNilRec_c _) ?_;rintro e w9 ⟨rfl,rfl⟩;refine⟨_,rfl,?_⟩))
   all_goals
    go_wp2_with fail
    go_meet
    case rel=>exact⟨A8,c8,w8,rfl,HO8.out⟩
  case rest=>
   obtain⟨A8,c8,w8,hwx,HO8⟩:=hcut
   obtain⟨W,hWx⟩:∃W,W=(w8.setCell ⟨g,4,none⟩ (.slice A8 c.en c8)).setCell ⟨g,5,none⟩ (.slice none 0 0):=⟨_,rfl⟩
   have hC8:Calm w w8:=HB7.out.calm.trans (Calm.trans (Below.drew (Calm.refl w7)) HO8.out.calm)
   have hs8:=HSv.out.calm hC8
   have hFl:∀i,(x.F i∨i=w.heap.size+1)→i < w7.drew.heap.size:=fun i hi=>by
    have h1:=HB7.out.r.lt
    have h2:=HB7.out.calm.size
    rcases hi with hi | hi
    ·have:=HSv.out.lt i hi
     exact Nat.lt_of_lt_of_le this h2
    ·rw[hi]
     exact h1
   have hst:Stays (fun i=>x.F i∨i=w.heap.size+1) w8 (fun U=>ReadX encEd 12 U A8 l):=fun U kU=>edits_rows (OwnX.stays rowK_len HO8.out hFl U kU)
   have hst7:Stays (fun i=>i < w7.heap.size) w8 (fun U=>ReadX encEd 12 U A8 l):=fun U kU=>edits_rows (OwnX.stays rowK_len HO8.out (fun i hi=>hi) U kU)
   have hst0:Stays x.F w8 (fun U=>ReadX encEd 12 U A8 l):=fun U kU=>hst U (kU.mono fun i hi=>.inl (.inl hi))
   have p1:=hs8.putPn HP.out HPg.out 4 (.slice A8 c.en c8) { p with EA:=A8,ec:=c8,l:=l } (by rw[←HL.out];rfl) (.inr hst0)
   have p2:=p1.at_.putPn (p:={ p with EA:=A8,ec:=c8,l:=l }) rfl (g:=g) HPg.out 5 (.slice none 0 0) { p with EA:=A8,ec:=c8,l:=l } rfl (.inl ⟨rfl,rfl⟩)
   have hw0:Went w x W { x with ps:=[{ p with EA:=A8,ec:=c8,l:=l }] }:=by
    rw[hWx]
    exact ((Went.same HSv.out hC8).trans p1).trans p2
   have hk8:Kp x.F w8 W:=by
    rw[hWx]
    exact p1.kp.trans p2.kp
   have HW0:=Lib.hid hw0
   have HSt:Hid (Stays (fun i=>x.F i∨i=w.heap.size+1) W (fun U=>ReadX encEd 12 U A8 l)):=hst.kp (hk8.mono fun i hi=>.inl (.inl hi))
   have HSt7:Hid (Stays (fun i=>i < w7.heap.size) W (fun U=>ReadX encEd 12 U A8 l)):=hst7.kp (hk8.mono fun i hi=>.inl (hFl i (.inl hi)))
   have hr:=((HB7.out.to (Calm.trans (Below.drew (Calm.refl w7)) HO8.out.calm)).kp hk8 HO.out.1 HO.out.2).2
   rw[hwx,←hWx]
   have r0:=hr.at_ 0 _ rfl
   have r1:=hr.at_ 1 _ rfl
   have r2:=hr.at_ 2 _ rfl
   have f0:=hr.fz 0
   have f1:=hr.fz 1
   have f2:=hr.fz 2
   have lr:=hr.lt
   clear hr hk8 hw0 p1 p2 hst hst7 hst0 hs8 hC8 hFl hWx hwx
   go_wp2_with fail
   refine bodyPost_ret (v:=.tuple #[rep0,.int .i64 0]) ?_ rfl (.inr ⟨HSe.out,rfl,A8,c8,?_,?_⟩)
   ·rw[results_cell_slot rfl]
    go_simp
   ·exact Went.box HSv.out HW0.out (b:=w.heap.size+1) (by omega) HO.out.2 (Kp.set3 (F:=fun i=>i=w.heap.size+1) (Kp.refl _ _) (.inl rfl) _ _ _) (.inl ⟨rfl,rfl⟩) (.inl ⟨rfl,rfl⟩) (.inl ⟨rfl,rfl⟩) (fun q hq=>by
     rw[List.mem_singleton.1 hq]
     exact .inr HSt.out)
   ·exact Stays.kp' (F:=fun i=>i < w7.heap.size) HSt7.out (Kp.set3 (Kp.refl _ _) (b:=w.heap.size+1) (.inl HB7.out.r.lt) _ _ _) (fun i hi=>.inl (Nat.lt_of_lt_of_le hi HB7.out.calm.size))
 ·have h0':(se != 0)=true:=by simpa using h0
  have r0:=hb7.r.at_ 0 _ rfl
  have r1:=hb7.r.at_ 1 _ rfl
  have r2:=hb7.r.at_ 2 _ rfl
  have f0:=hb7.r.fz 0
  have f1:=hb7.r.fz 1
  have f2:=hb7.r.fz 2
  have lr:=hb7.r.lt
  clear hb7
  go_wp2_with fail
  refine bodyPost_ret (v:=.tuple #[rep0,.int .i64 se]) ?_ rfl (.inl ⟨by rw[HSe.out];exact h0,by rw[HSe.out],?_⟩)
  ·rw[results_cell_slot rfl]
   go_simp
  ·exact Went.box' HSv.out (Went.same HSv.out HB7.out.calm) (b:=w.heap.size+1) (by omega) HO.out.2 (Kp.set3 (F:=fun i=>i=w.heap.size+1) (Kp.refl _ _) (.inl rfl) _ _ _) ⟨rfl,rfl,rfl,rfl,rfl,rfl⟩ (fun q hq=>⟨q,hq,rfl,rfl⟩)
end Go.Proofs.YtcofdlipapnohaaGreatDoor
