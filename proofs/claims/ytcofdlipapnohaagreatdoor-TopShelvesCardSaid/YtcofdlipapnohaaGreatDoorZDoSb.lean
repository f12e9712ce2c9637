/- Walk: submit. -/
import Derived.Deep.RegionHeld3
import Derived.BigQuiet
import Derived.Test.YtcofdlipapnohaaGreatDoorZSrvA
import Derived.Test.YtcofdlipapnohaaGreatDoorZSrvU
import Derived.Test.YtcofdlipapnohaaGreatDoorZSrvN
import Derived.Test.YtcofdlipapnohaaGreatDoorZDoNw
import Derived.Test.YtcofdlipapnohaaGreatDoorZDoPt
set_option linter.unusedVariables false
set_option linter.unusedSimpArgs false
namespace Go.Proofs.YtcofdlipapnohaaGreatDoor
open Go Go.RowKit Sy
set_option maxRecDepth 100000 in
set_option maxHeartbeats 8000000 in
theorem greatest_c (p:ByteArray) (f:Value) (w:World) :
  Calls Tryz.prog 149 #[.agg #[.slice none 0 0,.slice none 0 0],.string p,f] w fun e w'=>e=.returned (.tuple #[.agg #[.string ⟨#[]⟩,.int .i64 0,.int .i64 0,.int .i64 0,.int .i64 0,.bool false,.bool false,.bool false,.int .u64 0,.int .i64 0,.string ⟨#[]⟩,.int .i64 0],.bool false])∧Calm w w':=by
 obtain⟨w1,hw1⟩:∃w1,w1=((w.alloc (.cells #[.slice none 0 0,.slice none 0 0] 50)).alloc (.cells #[.string ⟨#[]⟩,.int .i64 0,.int .i64 0,.int .i64 0,.int .i64 0,.bool false,.bool false,.bool false,.int .u64 0,.int .i64 0,.string ⟨#[]⟩,.int .i64 0] 105)).alloc (.cells #[.string ⟨#[]⟩,.int .i64 0,.int .i64 0,.int .i64 0,.int .i64 0,.bool false,.bool false,.bool false,.int .u64 0,.int .i64 0,.string ⟨#[]⟩,.int .i64 0] 105):=⟨_,rfl⟩
 have hc1:Calm w w1:=by rw[hw1];exact (((Calm.refl w).alloc _).alloc _).alloc _
 obtain⟨b3,hb3⟩:∃b3,b3=w.heap.size:=⟨_,rfl⟩
 obtain⟨b6,hb6⟩:∃b6,b6=b3+1:=⟨_,rfl⟩
 obtain⟨b8,hb8⟩:∃b8,b8=b6+1:=⟨_,rfl⟩
 have h3:CellsB w1 b3 [.slice none 0 0,.slice none 0 0]:=by
  rw[hw1,hb3]
  exact (CellsB.new w #[.slice none 0 0,.slice none 0 0] 50).calm (((Calm.refl _).alloc _).alloc _)
 have h6:CellsB w1 b6 [.string ⟨#[]⟩,.int .i64 0,.int .i64 0,.int .i64 0,.int .i64 0,.bool false,.bool false,.bool false,.int .u64 0,.int .i64 0,.string ⟨#[]⟩,.int .i64 0]:=by
  rw[hw1,hb6,hb3]
  have:=(CellsB.new (w.alloc (.cells #[.slice none 0 0,.slice none 0 0] 50)) #[.string ⟨#[]⟩,.int .i64 0,.int .i64 0,.int .i64 0,.int .i64 0,.bool false,.bool false,.bool false,.int .u64 0,.int .i64 0,.string ⟨#[]⟩,.int .i64 0] 105).calm ((Calm.refl _).alloc (.cells #[.string ⟨#[]⟩,.int .i64 0,.int .i64 0,.int .i64 0,.int .i64 0,.bool false,.bool false,.bool false,.int .u64 0,.int .i64 0,.string ⟨#[]⟩,.int .i64 0] 105))
  rwa [World.size_alloc] at this
 have h8:CellsB w1 b8 [.string ⟨#[]⟩,.int .i64 0,.int .i64 0,.int .i64 0,.int .i64 0,.bool false,.bool false,.bool false,.int .u64 0,.int .i64 0,.string ⟨#[]⟩,.int .i64 0]:=by
  rw[hw1,hb8,hb6,hb3]
  have:=CellsB.new ((w.alloc (.cells #[.slice none 0 0,.slice none 0 0] 50)).alloc (.cells #[.string ⟨#[]⟩,.int .i64 0,.int .i64 0,.int .i64 0,.int .i64 0,.bool false,.bool false,.bool false,.int .u64 0,.int .i64 0,.string ⟨#[]⟩,.int .i64 0] 105)) #[.string ⟨#[]⟩,.int .i64 0,.int .i64 0,.int .i64 0,.int .i64 0,.bool false,.bool false,.bool false,.int .u64 0,.int .i64 0,.string ⟨#[]⟩,.int .i64 0] 105
  rwa [World.size_alloc,World.size_alloc] at this
 have H6:=Lib.hid h6
 have HC1:Hid (Calm w w1∧w.heap.size≤b6):=⟨hc1,by omega⟩
 have k0:=h3.at_ 0 _ rfl
 have z0:=h8.at_ 0 _ rfl
 have z1:=h8.at_ 1 _ rfl
 have z2:=h8.at_ 2 _ rfl
 have z3:=h8.at_ 3 _ rfl
 have z4:=h8.at_ 4 _ rfl
 have z5:=h8.at_ 5 _ rfl
 have z6:=h8.at_ 6 _ rfl
 have z7:=h8.at_ 7 _ rfl
 have z8:=h8.at_ 8 _ rfl
 have z9:=h8.at_ 9 _ rfl
 have z10:=h8.at_ 10 _ rfl
 have z11:=h8.at_ 11 _ rfl
 have y0:=h6.at_ 0 _ rfl
 have y1:=h6.at_ 1 _ rfl
 have y2:=h6.at_ 2 _ rfl
 have y3:=h6.at_ 3 _ rfl
 have y4:=h6.at_ 4 _ rfl
 have y5:=h6.at_ 5 _ rfl
 have y6:=h6.at_ 6 _ rfl
 have y7:=h6.at_ 7 _ rfl
 have y8:=h6.at_ 8 _ rfl
 have y9:=h6.at_ 9 _ rfl
 have y10:=h6.at_ 10 _ rfl
 have y11:=h6.at_ 11 _ rfl
 have f0:=h6.fz 0
 have f1:=h6.fz 1
 have f2:=h6.fz 2
 have f3:=h6.fz 3
 have f4:=h6.fz 4
 have f5:=h6.fz 5
 have f6:=h6.fz 6
 have f7:=h6.fz 7
 have f8:=h6.fz 8
 have f9:=h6.fz 9
 have f10:=h6.fz 10
 have f11:=h6.fz 11
 have l8:=h8.lt
 have l6:=h6.lt
 go_enter Tryz.func149,Tryz.ntmps149
 go_wp2_with fail
 rw[←hw1,←hb3,←hb6,←hb8]
 clear hw1 hc1 hb3 hb6 hb8 h3 h6 h8
 go_loopw [9,15] (fun q i wr=>q=.bool false∧i=.int .i64 0∧wr=w1) (fun _ _ _=>0)
 case atStart=>exact⟨rfl,rfl,rfl⟩
 case round=>
  obtain⟨rfl,rfl,rfl⟩:=hrel
  go_wp2_with fail
  refine body_world (wf:=wr.setCells b6 0 [.string ⟨#[]⟩,.int .i64 0,.int .i64 0,.int .i64 0,.int .i64 0,.bool false,.bool false,.bool false,.int .u64 0,.int .i64 0,.string ⟨#[]⟩,.int .i64 0]) rfl ?_
  have hzf:=H6.out.put [.string ⟨#[]⟩,.int .i64 0,.int .i64 0,.int .i64 0,.int .i64 0,.bool false,.bool false,.bool false,.int .u64 0,.int .i64 0,.string ⟨#[]⟩,.int .i64 0] rfl
  have hcf:Calm w (wr.setCells b6 0 [.string ⟨#[]⟩,.int .i64 0,.int .i64 0,.int .i64 0,.int .i64 0,.bool false,.bool false,.bool false,.int .u64 0,.int .i64 0,.string ⟨#[]⟩,.int .i64 0]):=calm_set12 HC1.out.1 HC1.out.2 _ _ _ _ _ _ _ _ _ _ _ _
  clear y0 y1 y2 y3 y4 y5 y6 y7 y8 y9 y10 y11 z0 z1 z2 z3 z4 z5 z6 z7 z8 z9 z10 z11 f0 f1 f2 f3 f4 f5 f6 f7 f8 f9 f10 f11
  generalize wr.setCells b6 0 [.string ⟨#[]⟩,.int .i64 0,.int .i64 0,.int .i64 0,.int .i64 0,.bool false,.bool false,.bool false,.int .u64 0,.int .i64 0,.string ⟨#[]⟩,.int .i64 0]=wf at hzf hcf ⊢
  have u0:=hzf.at_ 0 _ rfl
  have u1:=hzf.at_ 1 _ rfl
  have u2:=hzf.at_ 2 _ rfl
  have u3:=hzf.at_ 3 _ rfl
  have u4:=hzf.at_ 4 _ rfl
  have u5:=hzf.at_ 5 _ rfl
  have u6:=hzf.at_ 6 _ rfl
  have u7:=hzf.at_ 7 _ rfl
  have u8:=hzf.at_ 8 _ rfl
  have u9:=hzf.at_ 9 _ rfl
  have u10:=hzf.at_ 10 _ rfl
  have u11:=hzf.at_ 11 _ rfl
  refine bodyPost_ret (v:=.tuple #[.agg #[.string ⟨#[]⟩,.int .i64 0,.int .i64 0,.int .i64 0,.int .i64 0,.bool false,.bool false,.bool false,.int .u64 0,.int .i64 0,.string ⟨#[]⟩,.int .i64 0],.bool false]) ?_ rfl ⟨rfl,hcf⟩
  rw[results_cell_slot rfl]
  clear hzf hcf
  go_simp
set_option maxRecDepth 100000 in
set_option maxHeartbeats 8000000 in
theorem hlast_c (p:ByteArray) (w:World) :
  Calls Tryz.prog 109 #[.agg #[.slice none 0 0,.slice none 0 0],.string p] w fun e w'=>e=.returned (.tuple #[.agg #[.string ⟨#[]⟩,.int .i64 0,.int .i64 0,.int .i64 0,.int .i64 0,.bool false,.bool false,.bool false,.int .u64 0,.int .i64 0,.string ⟨#[]⟩,.int .i64 0],.bool false])∧Calm w w':=by
 have K:=Lib.hid fun (f:Value) (W:World)=>greatest_c p f W
 go_enter Tryz.func109,Tryz.ntmps109
 go_wp2_with fail
 refine (K.out _ _).mono ?_
 rintro e w2 ⟨rfl,hc2⟩
 have h4:CellsB w2 (w.heap.size+1) [.string ⟨#[]⟩,.int .i64 0,.int .i64 0,.int .i64 0,.int .i64 0,.bool false,.bool false,.bool false,.int .u64 0,.int .i64 0,.string ⟨#[]⟩,.int .i64 0]:=by
  have:=(CellsB.new (w.alloc (.cells #[.slice none 0 0,.slice none 0 0] 50)) #[.string ⟨#[]⟩,.int .i64 0,.int .i64 0,.int .i64 0,.int .i64 0,.bool false,.bool false,.bool false,.int .u64 0,.int .i64 0,.string ⟨#[]⟩,.int .i64 0] 105).calm hc2
  rwa [World.size_alloc] at this
 have HC2:Hid (Calm w w2):=(((Calm.refl w).alloc _).alloc _).trans hc2
 have H4:=Lib.hid h4
 obtain⟨b4,hb4⟩:∃b4,b4=w.heap.size+1:=⟨_,rfl⟩
 have HB4:Hid (w.heap.size≤b4):=Nat.le_trans (Nat.le_succ _) (Nat.le_of_eq hb4.symm)
 rw[←hb4] at h4 H4 ⊢
 have y0:=h4.at_ 0 _ rfl
 have y1:=h4.at_ 1 _ rfl
 have y2:=h4.at_ 2 _ rfl
 have y3:=h4.at_ 3 _ rfl
 have y4:=h4.at_ 4 _ rfl
 have y5:=h4.at_ 5 _ rfl
 have y6:=h4.at_ 6 _ rfl
 have y7:=h4.at_ 7 _ rfl
 have y8:=h4.at_ 8 _ rfl
 have y9:=h4.at_ 9 _ rfl
 have y10:=h4.at_ 10 _ rfl
 have y11:=h4.at_ 11 _ rfl
 have f0:=h4.fz 0
 have f1:=h4.fz 1
 have f2:=h4.fz 2
 have f3:=h4.fz 3
 have f4:=h4.fz 4
 have f5:=h4.fz 5
 have f6:=h4.fz 6
 have f7:=h4.fz 7
 have f8:=h4.fz 8
 have f9:=h4.fz 9
 have f10:=h4.fz 10
 have f11:=h4.fz 11
 have l4:=h4.lt
 clear h4 hc2 hb4
 go_wp2_with fail
 refine body_world (wf:=w2.setCells b4 0 [.string ⟨#[]⟩,.int .i64 0,.int .i64 0,.int .i64 0,.int .i64 0,.bool false,.bool false,.bool false,.int .u64 0,.int .i64 0,.string ⟨#[]⟩,.int .i64 0]) rfl ?_
 have hzf:=H4.out.put [.string ⟨#[]⟩,.int .i64 0,.int .i64 0,.int .i64 0,.int .i64 0,.bool false,.bool false,.bool false,.int .u64 0,.int .i64 0,.string ⟨#[]⟩,.int .i64 0] rfl
 have hcf:Calm w (w2.setCells b4 0 [.string ⟨#[]⟩,.int .i64 0,.int .i64 0,.int .i64 0,.int .i64 0,.bool false,.bool false,.bool false,.int .u64 0,.int .i64 0,.string ⟨#[]⟩,.int .i64 0]):=calm_set12 HC2.out HB4.out _ _ _ _ _ _ _ _ _ _ _ _
 clear y0 y1 y2 y3 y4 y5 y6 y7 y8 y9 y10 y11 f0 f1 f2 f3 f4 f5 f6 f7 f8 f9 f10 f11
 generalize w2.setCells b4 0 [.string ⟨#[]⟩,.int .i64 0,.int .i64 0,.int .i64 0,.int .i64 0,.bool false,.bool false,.bool false,.int .u64 0,.int .i64 0,.string ⟨#[]⟩,.int .i64 0]=wf at hzf hcf ⊢
 have u0:=hzf.at_ 0 _ rfl
 have u1:=hzf.at_ 1 _ rfl
 have u2:=hzf.at_ 2 _ rfl
 have u3:=hzf.at_ 3 _ rfl
 have u4:=hzf.at_ 4 _ rfl
 have u5:=hzf.at_ 5 _ rfl
 have u6:=hzf.at_ 6 _ rfl
 have u7:=hzf.at_ 7 _ rfl
 have u8:=hzf.at_ 8 _ rfl
 have u9:=hzf.at_ 9 _ rfl
 have u10:=hzf.at_ 10 _ rfl
 have u11:=hzf.at_ 11 _ rfl
 refine bodyPost_ret (v:=.tuple #[.agg #[.string ⟨#[]⟩,.int .i64 0,.int .i64 0,.int .i64 0,.int .i64 0,.bool false,.bool false,.bool false,.int .u64 0,.int .i64 0,.string ⟨#[]⟩,.int .i64 0],.bool false]) ?_ rfl ⟨rfl,hcf⟩
 rw[results_cell_slot rfl]
 clear hzf hcf
 go_simp
def fencedS (q:Edt→Bool):List Edt→Bool
 |[]=>true
 |x :: l=>if x.tx=true∧q x=false then false else fencedS q l
theorem ret_boolF {v u:Bool} (h:v=u):Ending.returned (.bool v)=Ending.returned (.bool u):=by rw[h]
set_option maxRecDepth 100000 in
set_option maxHeartbeats 16000000 in
theorem fenced_c (x:Srv) (q:Edt→Bool) (cl:Str) (l:List Edt) (EA:Option Addr) (n c:Nat) (w:World) (h:SrvAt w x) (hrs:x.rs=[]) (hRA:x.RA=none) (hrc:x.rc=0) (hX:ReadX encEd 12 w EA l) (hl:l.length=n) (hn:n≤64)
  (HH:∀y∈l,y.tx=true→∀W,Calm w W→Calls Tryz.prog 110 #[.pointer (some ⟨x.T,0,none⟩),.string (bs y.path),.string (bs cl),.int .i64 y.fence] W fun e w'=>e=.returned (.bool (q y))∧Calm W w') :
  Calls Tryz.prog 73 #[.pointer (some ⟨x.S,0,none⟩),.string (bs cl),.slice EA n c] w fun e w'=>e=.returned (.bool (fencedS q l))∧Calm w w':=by
 have HX:=Lib.hid fun (W:World) (hW:Calm w W)=>hX.calm hW
 have HL:=Lib.hid hl
 have HHh:=Lib.hid HH
 have HSC:Hid (∀W,Calm w W→W.cell? ⟨x.S,0,none⟩=some (.pointer (some ⟨x.T,0,none⟩))∧W.cell? ⟨x.S,4,none⟩=some (.slice none 0 0)∧W.cell? ⟨x.S,5,none⟩=some (.slice none 0 0)):=fun W hW=>by
  have z:=(h.calm hW).z
  have z4:=z.at_ 4 _ rfl
  rw[hRA,hrc,hrs] at z4
  exact⟨z.at_ 0 _ rfl,z4,z.at_ 5 _ rfl⟩
 obtain⟨R,hR⟩:∃R,fencedS q l=R:=⟨_,rfl⟩
 have HR:=Lib.hid hR
 rw[hR]
 obtain⟨S,hS⟩:∃S,x.S=S:=⟨_,rfl⟩
 obtain⟨T,hT⟩:∃T,x.T=T:=⟨_,rfl⟩
 rw[hS,hT] at HSC
 rw[hT] at HHh
 rw[hS]
 clear h hrs hRA hrc hX hl HH hR hS hT
 go_enter Tryz.func73,Tryz.ntmps73
 go_wp2_with fail
 go_loopw [13] (fun v wr=>∃j:Nat,j≤n∧v=.int .i64 j∧Hid (fencedS q (l.drop j)=R)∧Hid (Calm w wr)) (fun v _=>n - (intOf v).toNat)
 case atStart=>exact⟨0,Nat.zero_le _,rfl,HR.out,Calm.refl _⟩
 case round=>
  obtain⟨j,hj,rfl,HRj,HW⟩:=hrel
  obtain⟨wq,rfl⟩:∃wq,wq=wr:=⟨_,rfl⟩
  by_cases hlt:j < n
  ·obtain⟨b,o,y,rfl,hb,hx,hat⟩:=edits_get (HX.out wq HW.out) (k:=j) (by rw[HL.out];exact hlt)
   have c0:=hat.c0
   have c1:=hat.c1
   have c2:=hat.c2
   have c3:=hat.c3
   have c4:=hat.c4
   have c5:=hat.c5
   have c6:=hat.c6
   have c7:=hat.c7
   have c8:=hat.c8
   have c9:=hat.c9
   have c10:=hat.c10
   have c11:=hat.c11
   have HHy:=Lib.hid (HHh.out y (List.mem_of_getElem? hx))
   have hRx:Hid ((if y.tx=true∧q y=false then false else fencedS q (l.drop (j+1)))=R):=by
    show _=_
    rw[←HRj.out]
    have hd:l.drop j=y :: l.drop (j+1):=by
     rw[List.drop_eq_getElem_cons (List.getElem?_eq_some_iff.1 hx).1,(List.getElem?_eq_some_iff.1 hx).2]
    rw[hd]
    rfl
   clear hat hx
   go_upto_region 4 with (fail)
   obtain⟨w4,hw4⟩:∃w4,w4=wq.alloc (.cells #[.string (bs y.path),.int .i64 y.act,.int .i64 y.tb,.bool y.tk,.bool y.tx,.bool y.te,.int .u64 y.sum,.int .i64 y.size,.int .i64 y.base,.string (bs y.frm),.int .i64 y.fn,.int .i64 y.fence] 32):=⟨_,rfl⟩
   obtain⟨P8,e8⟩:∃P8,P8=wq.heap.size:=⟨_,rfl⟩
   have h8:CellsB w4 P8 (encEd y):=by
    rw[hw4,e8]
    exact CellsB.new wq _ _
   have hc4:Calm wq w4:=by rw[hw4];exact (Calm.refl _).alloc _
   rw[←hw4,←e8]
   have HC4:Hid (Calm w w4):=HW.out.trans hc4
   have HSX:Hid (∀W,Calm w4 W→W.cell? ⟨S,4,none⟩=some (.slice none 0 0)∧W.cell? ⟨S,5,none⟩=some (.slice none 0 0)∧W.cell? ⟨P8,0,none⟩=some (.string (bs y.path))):=fun W hW=>by
    obtain⟨_,s4,s5⟩:=HSC.out W (HC4.out.trans hW)
    exact⟨s4,s5,(h8.calm hW).at_ 0 _ rfl⟩
   have H8:=Lib.hid fun (W:World) (hW:Calm w4 W)=>h8.calm hW
   have KL:=Lib.hid fun (W:World)=>hlast_c (bs y.path) W
   clear hw4 e8 h8 hc4 c0 c1 c2 c3 c4 c5 c6 c7 c8 c9 c10 c11
   go_cut [9,10] (fun a f wx=>∃B,a=.pointer (some ⟨B,0,none⟩)∧f=.bool false∧Hid (CellsB wx B [.string ⟨#[]⟩,.int .i64 0,.int .i64 0,.int .i64 0,.int .i64 0,.bool false,.bool false,.bool false,.int .u64 0,.int .i64 0,.string ⟨#[]⟩,.int .i64 0]∧Calm w4 wx))
   case first=>
    clear HHy HHh
    go_region_held3 (fun W=>W.cell? ⟨S,4,none⟩=some (.slice none 0 0)∧W.cell? ⟨S,5,none⟩=some (.slice none 0 0)∧W.cell? ⟨P8,0,none⟩=some (.string (bs y.path)))
     (first
      |with_reducible exact HSX.out _ (calm_set12 hcx (Nat.le_refl _) _ _ _ _ _ _ _ _ _ _ _ _)
      |with_reducible exact HSX.out _ (Calm.refl _)
      |with_reducible exact HSX.out _ (Below.drew (Calm.refl _))
      |with_reducible exact HSX.out _ (Below.drew ((Calm.refl _).alloc _))
      |with_reducible exact HSX.out _ ((Calm.refl _).alloc _)
      |with_reducible exact HSX.out _ hcx
      |with_reducible exact HSX.out _ (Calm.alloc hcx _)
      |go_keep)
     (first
      |(go_at_call 109;refine (KL.out _).mono ?_;rintro e w5 ⟨rfl,hc5⟩;have hcx:Calm w4 w5:=Calm.trans (by first | exact Calm.refl _ | exact Below.drew (Calm.refl _) | exact (Calm.refl _).alloc _ | exact (Below.drew (Calm.refl _)).alloc _ | exact Below.drew ((Calm.refl _).alloc _)) hc5;(first | (with_reducible have hZ5:CellsB w5 w4.heap.size [.string ⟨#[]⟩,.int .i64 0,.int .i64 0,.int .i64 0,.int .i64 0,.bool false,.bool false,.bool false,.int .u64 0,.int .i64 0,.string ⟨#[]⟩,.int .i64 0]:=CellsB.calm (by first | with_reducible exact CellsB.new w4 _ _ | with_reducible exact (CellsB.new w4 _ _).calm (Below.drew (Calm.refl _)) | with_reducible exact CellsB.new w4.drew _ _) hc5;have f0:=hZ5.fz 0;have f1:=hZ5.fz 1;have f2:=hZ5.fz 2;have f3:=hZ5.fz 3;have f4:=hZ5.fz 4;have f5:=hZ5.fz 5;have f6:=hZ5.fz 6;have f7:=hZ5.fz 7;have f8:=hZ5.fz 8;have f9:=hZ5.fz 9;have f10:=hZ5.fz 10;have f11:=hZ5.fz 11;have z0:=hZ5.at_ 0 _ rfl;have z1:=hZ5.at_ 1 _ rfl;have z2:=hZ5.at_ 2 _ rfl;have z3:=hZ5.at_ 3 _ rfl;have z4:=hZ5.at_ 4 _ rfl;have z5:=hZ5.at_ 5 _ rfl;have z6:=hZ5.at_ 6 _ rfl;have z7:=hZ5.at_ 7 _ rfl;have z8:=hZ5.at_ 8 _ rfl;have z9:=hZ5.at_ 9 _ rfl;have z10:=hZ5.at_ 10 _ rfl;have z11:=hZ5.at_ 11 _ rfl) | skip)))
    all_goals
     go_wp2_with fail
     go_meet
     case rel=>first
      |(with_reducible refine⟨_,rfl,rfl,Lib.hid ⟨CellsB.new w5 _ _,hcx.alloc _⟩⟩)
      |exact⟨w4.heap.size,rfl,rfl,Lib.hid ⟨hZ5.put [.string ⟨#[]⟩,.int .i64 0,.int .i64 0,.int .i64 0,.int .i64 0,.bool false,.bool false,.bool false,.int .u64 0,.int .i64 0,.string ⟨#[]⟩,.int .i64 0] rfl,calm_set12 hcx (Nat.le_refl _) _ _ _ _ _ _ _ _ _ _ _ _⟩⟩
   case rest=>
    obtain⟨B,rfl,rfl,HQ⟩:=hcut
    have HC5:Hid (Calm w wc):=HC4.out.trans HQ.out.2
    have b6:=HQ.out.1.at_ 6 _ rfl
    have lB:=HQ.out.1.lt
    have d4:=(H8.out wc HQ.out.2).at_ 4 _ rfl
    have l8:=(H8.out wc HQ.out.2).lt
    cases htx:y.tx with
    |false=>
     rw[htx] at d4
     have HRy:Hid (fencedS q (l.drop (j+1))=R):=by
      show _=_
      rw[←hRx.out,if_neg (by rw[htx];simp)]
     go_upto_region 5 with (fail)
     go_cut [47] (fun s wx=>s=.bool false∧Hid (Calm wc wx))
     case first=>
      go_quiet (fail)
      all_goals
       go_wp2_with fail
       go_meet
       case rel=>first
        |exact⟨rfl,Lib.hid ((Calm.refl _).drewN _)⟩
        |exact⟨rfl,Lib.hid (Calm.refl _)⟩
     case rest=>
      obtain⟨rfl,HR5⟩:=hcut
      clear b6 lB d4 l8
      go_wp2_with fail
      go_roundw
      case rel=>exact⟨j+1,by omega,by go_num,HRy.out,HC5.out.trans HR5.out⟩
      case measure=>simp[intOf];omega
    |true=>
     rw[htx] at d4
     have KH:Hid (∀W,Calm wc W→Calls Tryz.prog 110 #[.pointer (some ⟨T,0,none⟩),.string (bs y.path),.string (bs cl),.int .i64 y.fence] W fun e w'=>e=.returned (.bool (q y))∧Calm W w'):=fun W hW=>HHy.out htx W (HC5.out.trans hW)
     obtain⟨qy,hqy⟩:∃qy,q y=qy:=⟨_,rfl⟩
     rw[hqy] at KH
     have HQy:=Lib.hid hqy
     have HTx:=Lib.hid htx
     have HSY:Hid (∀W,Calm wc W→W.cell? ⟨B,6,none⟩=some (.bool false)∧W.cell? ⟨P8,4,none⟩=some (.bool true)∧W.cell? ⟨S,0,none⟩=some (.pointer (some ⟨T,0,none⟩))∧W.cell? ⟨P8,0,none⟩=some (.string (bs y.path))∧W.cell? ⟨P8,11,none⟩=some (.int .i64 y.fence)):=fun W hW=>by
      have h8:=H8.out W (HQ.out.2.trans hW)
      refine⟨(HQ.out.1.calm hW).at_ 6 _ rfl,?_,(HSC.out W (HC5.out.trans hW)).1,h8.at_ 0 _ rfl,h8.at_ 11 _ rfl⟩
      have:=h8.at_ 4 _ rfl
      rw[HTx.out] at this
      exact this
     clear hqy htx d4 b6 lB l8 HHy HHh
     go_upto_region 5 with (fail)
     go_cut [47] (fun s wx=>s=.bool (!qy)∧Hid (Calm wc wx))
     case first=>
      go_region_held3 (fun W=>W.cell? ⟨B,6,none⟩=some (.bool false)∧W.cell? ⟨P8,4,none⟩=some (.bool true)∧W.cell? ⟨S,0,none⟩=some (.pointer (some ⟨T,0,none⟩))∧W.cell? ⟨P8,0,none⟩=some (.string (bs y.path))∧W.cell? ⟨P8,11,none⟩=some (.int .i64 y.fence))
       (first
        |with_reducible exact HSY.out _ (Calm.refl _)
        |with_reducible exact HSY.out _ (Below.drew (Calm.refl _))
        |with_reducible exact HSY.out _ hcx
        |go_keep)
       (first
        |(go_at_call 110;refine (KH.out _ (by first | exact Calm.refl _ | exact Below.drew (Calm.refl _))).mono ?_;rintro e w6 ⟨rfl,hc6⟩;have hcx:Calm wc w6:=Calm.trans (by first | exact Calm.refl _ | exact Below.drew (Calm.refl _)) hc6))
      all_goals
       go_wp2_with fail
       go_meet
       case rel=>exact⟨rfl,Lib.hid hcx⟩
     case rest=>
      obtain⟨rfl,HR5⟩:=hcut
      cases qy with
      |true=>
       have HRy:Hid (fencedS q (l.drop (j+1))=R):=by
        show _=_
        rw[←hRx.out,if_neg (by rw[HQy.out];simp)]
       go_wp2_with fail
       go_roundw
       case rel=>exact⟨j+1,by omega,by go_num,HRy.out,HC5.out.trans HR5.out⟩
       case measure=>simp[intOf];omega
      |false=>
       have HRy:Hid (false=R):=by
        show _=_
        rw[←hRx.out,if_pos ⟨HTx.out,HQy.out⟩]
       go_wp2_with fail
       go_ret
       exact⟨ret_boolF HRy.out,HC5.out.trans HR5.out⟩
  ·obtain rfl:j=n:=by omega
   have HRy:Hid (true=R):=by
    show _=_
    rw[←HRj.out,List.drop_of_length_le (by rw[HL.out];exact Nat.le_refl _)]
    rfl
   go_wp2_with fail
   go_ret
   exact⟨ret_boolF HRy.out,HW.out⟩
variable {w w':World} {x:Srv}
theorem one_stays {α:Type} {enc:α→List Value} {K:Nat} {T:TypeId} {F:Nat→Prop} {w:World} {g c:Nat} {y:α} (hlen:(enc y).length=K) (hown:w.ownsRow 0 T K (.slice (some ⟨g,0,none⟩) 1 c) 1 (enc y)) (hF:¬F g):Stays F w (fun W=>ReadX enc K W (some ⟨g,0,none⟩) [y]):=fun W kW=>by
 have:=ownsRow_kp hown kW (fun i hi=>by
  rw[own_blk] at hi
  obtain rfl:=Option.some.inj hi
  exact hF)
 intro hne
 rcases this.2 with⟨h2,_⟩ | ⟨g',cap,cur,hv,hb,hgg,hn,hm,hs,ht⟩
 ·cases h2
 ·cases hv
  refine⟨_,0,rfl,(Array.getElem?_eq_some_iff.1 hgg).1,fun j z hy i u hu=>?_⟩
  match j,hy with
  |0,hy=>
   obtain rfl:=Option.some.inj hy
   simp only[Nat.zero_mul,Nat.zero_add]
   have hi5:i < K:=by
    have:=(List.getElem?_eq_some_iff.1 hu).1
    omega
   rw[cell_of_row _ _ i _ _ _ hgg]
   have h3:(cur.toList.take (1 * K))[i]?=(enc y)[i]?:=by rw[ht]
   rw[List.getElem?_take,if_pos (by omega),hu] at h3
   simpa using h3
theorem SrvAt.putDep (h:SrvAt w x) (A:Option Addr) (c:Nat) (rs:List (RowK 12)) (hst:Stays x.F w (fun W=>ReadX RowK.vs 12 W A rs)) :
  Went w x ((w.setCell ⟨x.S,4,none⟩ (.slice A rs.length c)).setCell ⟨x.S,5,none⟩ (.slice none 0 0)) { x with RA:=A,rc:=c,rs:=rs }:=by
 have k:Kp (fun i=>i=x.S) w ((w.setCell ⟨x.S,4,none⟩ (.slice A rs.length c)).setCell ⟨x.S,5,none⟩ (.slice none 0 0)):=((Kp.refl (fun i=>i=x.S) w).set1 (b:=x.S) (.inl rfl) 4 _).set1 (b:=x.S) (.inl rfl) 5 _
 have k2:Kp x.F w ((w.setCell ⟨x.S,4,none⟩ (.slice A rs.length c)).setCell ⟨x.S,5,none⟩ (.slice none 0 0)):=k.mono fun i hi=>.inl (.inl hi)
 refine Went.make h k2 _ (fun i hi=>.inl hi) ((h.z.setc 4 (.slice A rs.length c) (by simp[Srv.vs])).setc 5 (.slice none 0 0) (by simp[Srv.vs])) (h.t.kp k (fun e=>h.ne.1 e.symm)) (h.m.kp k (fun e=>h.ne.2.1 e.symm)) h.ne
  (ownsRow_kp h.cl k (fun b hb e=>?_)) (ownsRow_kp h.pn k (fun b hb e=>?_)) h.fc h.fp (.inl ⟨rfl,rfl⟩) (.inr (hst.kp k2)) (.inl ⟨rfl,rfl⟩) (fun p hp=>.inl ⟨p,hp,rfl,rfl⟩)
 ·rw[own_blk] at hb
  exact h.caOff (.inl rfl) (e ▸ hb)
 ·rw[own_blk] at hb
  exact h.paOff (.inl rfl) (e ▸ hb)
theorem SrvAt.putCg (h:SrvAt w x) {w1:World} {g c:Nat} (ch:Chg) (hc:Calm w w1) (hg:w.heap.size≤g) (hown:w1.ownsRow 0 60 5 (.slice (some ⟨g,0,none⟩) 1 c) 1 (encCg ch)) (he:Stays x.F w (fun W=>ReadX encEd 12 W ch.EA ch.l)) :
  Went w x (w1.setCell ⟨x.S,6,none⟩ (.slice (some ⟨g,0,none⟩) 1 c)) { x with HA:=some ⟨g,0,none⟩,hc:=c,hs:=[ch] }:=by
 have h1:=h.calm hc
 have k:Kp (fun i=>i=x.S) w1 (w1.setCell ⟨x.S,6,none⟩ (.slice (some ⟨g,0,none⟩) 1 c)):=kp_set w1 _ _ _ rfl
 have k2:Kp x.F w1 (w1.setCell ⟨x.S,6,none⟩ (.slice (some ⟨g,0,none⟩) 1 c)):=k.mono fun i hi=>.inl (.inl hi)
 have hgF:¬x.F g:=fun hf=>by have:=h.lt g hf;omega
 have hst:Stays x.F w1 (fun W=>ReadX encCg 5 W (some ⟨g,0,none⟩) [ch]):=one_stays (encCg_len ch) hown hgF
 have hw:Went w1 x (w1.setCell ⟨x.S,6,none⟩ (.slice (some ⟨g,0,none⟩) 1 c)) { x with HA:=some ⟨g,0,none⟩,hc:=c,hs:=[ch] }:=by
  refine Went.make h1 k2 _ (fun i hi=>.inl hi) (h1.z.setc 6 (.slice (some ⟨g,0,none⟩) 1 c) (by simp[Srv.vs])) (h1.t.kp k (fun e=>h1.ne.1 e.symm)) (h1.m.kp k (fun e=>h1.ne.2.1 e.symm)) h1.ne
   (ownsRow_kp h1.cl k (fun b hb e=>?_)) (ownsRow_kp h1.pn k (fun b hb e=>?_)) h1.fc h1.fp (.inl ⟨rfl,rfl⟩) (.inl ⟨rfl,rfl⟩) (.inr ⟨hst.kp k2,fun q hq=>?_⟩) (fun p hp=>.inl ⟨p,hp,rfl,rfl⟩)
  ·rw[own_blk] at hb
   exact h1.caOff (.inl rfl) (e ▸ hb)
  ·rw[own_blk] at hb
   exact h1.paOff (.inl rfl) (e ▸ hb)
  ·rw[List.mem_singleton.1 hq]
   exact (he.calm hc).kp k2
 exact (Went.same h hc).trans hw
def subE (q:Edt→Bool) (l:List Edt):Int:=if suitE none l≠0 then suitE none l else if appE 1 l≠0 then appE 1 l else if fencedS q l=false then 215 else 0
def SubEd (w:World) (x:Srv) (p:Pnd) (q:Edt→Bool) (e:Ending) (w':World):Prop:=
 (subE q p.l≠0∧e=.returned (.tuple #[rep0,.int .i64 (subE q p.l)])∧Went w x w' x) ∨
 (subE q p.l=0∧e=.returned (.tuple #[.agg #[.int .i64 1,.int .i64 0,.int .i64 0],.int .i64 0])∧∃RA rc HA hc,Went w x w' { x with RA:=RA,rc:=rc,rs:=p.l.map (revR 1),HA:=HA,hc:=hc,hs:=[⟨1,p.cl,p.tx,p.EA,p.ec,p.l⟩],ps:=[] }∧Stays (fun i=>i < w.heap.size) w' (fun U=>ReadX RowK.vs 12 U RA (p.l.map (revR 1)))∧Stays (fun i=>i < w.heap.size) w' (fun U=>ReadX encCg 5 U HA [⟨1,p.cl,p.tx,p.EA,p.ec,p.l⟩]))
theorem infoK_Change:(Tryz.prog.info? 60).map (fun i=>(i.zero,i.size,i.bytes))=some (some (.agg #[.int .i64 0,.string ⟨#[]⟩,.string ⟨#[]⟩,.slice none 0 0,.slice none 0 0]),5,88):=by kernel_rfl
def AppOr (N:Nat) (w:World) (l:List Edt) (A:Option Addr) (m ca:Nat) (ae:Int):Prop:=(ae≠0∧appE 1 l=ae)∨(ae=0∧appE 1 l=0∧m=l.length∧Stays (fun i=>i < N) w (fun U=>ReadX RowK.vs 12 U A (l.map (revR 1))))
theorem AppOr.kp {N N':Nat} {w w':World} {l:List Edt} {A:Option Addr} {m ca:Nat} {ae:Int} (h:AppOr N w l A m ca ae) (k:Kp (fun i=>i < N) w w') (hN:N'≤N):AppOr N' w' l A m ca ae:=by
 rcases h with h | ⟨h1,h2,h3,h4⟩
 ·exact .inl h
 ·exact .inr ⟨h1,h2,h3,fun W hW=>h4 W (k.trans (hW.mono fun i hi=>.inl (Nat.lt_of_lt_of_le hi hN)))⟩
theorem appOr_of {l:List Edt} {w w':World} {e:Ending} (h:AppEnd 1 l w e w'):∃A m ca ae,e=.returned (.tuple #[.agg #[.slice A m ca,.slice none 0 0],.int .i64 ae])∧Hid (AppOr w.heap.size w' l A m ca ae):=by
 rcases h with⟨h1,rfl⟩ | ⟨h1,A,ca,rfl,hO⟩
 ·exact⟨none,0,0,_,rfl,.inl ⟨h1,rfl⟩⟩
 ·exact⟨A,l.length,ca,0,rfl,.inr ⟨rfl,h1,rfl,OwnX.stays rowK_len hO fun i hi=>hi⟩⟩
set_option maxRecDepth 100000 in
set_option maxHeartbeats 16000000 in
theorem doSubmit_c (x:Srv) (p:Pnd) (c:Cmd) (q:Edt→Bool) (i:Nat) (w:World) (h:SrvAt w x) (hss:x.ss=mainS) (hp:x.ps=[p]) (hn:p.num=c.num) (h2:x.cs.length≤2) (hci:bsC x.cs c.cl=((i:Int),true)) (hcs:x.cs[i]?=some c.cl)
  (hrs:x.rs=[]) (hRA:x.RA=none) (hrc:x.rc=0) (hhs:x.hs=[]) (hHA:x.HA=none) (hhc:x.hc=0)
  (hln:p.l.length≤64) (hs:∀y∈p.l,y.path.length≤1048576∧y.frm.length≤1048576) (hM:MaxL w)
  (HH:∀y∈p.l,y.tx=true→∀W,Calm w W→Calls Tryz.prog 110 #[.pointer (some ⟨x.T,0,none⟩),.string (bs y.path),.string (bs c.cl),.int .i64 y.fence] W fun e w'=>e=.returned (.bool (q y))∧Calm W w') :
  Calls Tryz.prog 30 #[.pointer (some ⟨x.S,0,none⟩),cmV c] w fun e w'=>SubEd w x p q e w':=by
 obtain⟨g,hg,hpc⟩:=h.pnAt hp
 have hX:ReadX encEd 12 w p.EA p.l:=h.eds p (by rw[hp];exact List.mem_singleton.2 rfl) w (Kp.refl _ _)
 obtain⟨n,hl⟩:∃n,p.l.length=n:=⟨_,rfl⟩
 rw[hl] at hln
 have K:=Lib.hid fun (W:World) (hW:Calm w W)=>own_c x p c g W (h.calm hW) hp hg hn
 have KC:Hid (∀W,Calm w W→Calls Tryz.prog 15 #[.pointer (some ⟨x.S,0,none⟩),.string (bs c.cl)] W fun e w'=>e=.returned (.tuple #[.int .i64 (i:Int),.bool true])∧Calm W w'):=fun W hW=>by
  have:=client_c x c.cl W (h.calm hW) h2
  rw[hci] at this
  exact this
 have KS:Hid (∀W,Calm w W→Calls Tryz.prog 68 #[.pointer (some ⟨x.S,0,none⟩),.agg #[.string (bs c.cl),.string ⟨#[109,97,105,110]⟩,.slice none 0 0],.slice p.EA n p.ec] W fun e w'=>e=.returned (.int .i64 (suitE none p.l))∧Calm W w'):=fun W hW=>
  suit_c x c.cl p.l p.EA n p.ec W (h.calm hW) hss (hX.calm hW) hl hln hs (hM.calm hW)
 have KA:Hid (∀W,Calm w W→Calls Tryz.prog 72 #[.agg #[.slice none 0 0,.slice none 0 0],.agg #[.int .i64 1,.string (bs p.cl),.string (bs p.tx),.slice p.EA n p.ec,.slice none 0 0]] W fun e w'=>AppEnd 1 p.l W e w'∧Calm W w'):=fun W hW=>
  append_c 1 p.cl p.tx p.EA n p.ec p.l W (hX.calm hW) hl hln hs
 have KF:Hid (∀W,Calm w W→Calls Tryz.prog 73 #[.pointer (some ⟨x.S,0,none⟩),.string (bs c.cl),.slice p.EA n p.ec] W fun e w'=>e=.returned (.bool (fencedS q p.l))∧Calm W w'):=fun W hW=>
  fenced_c x q c.cl p.l p.EA n p.ec W (h.calm hW) hrs hRA hrc (hX.calm hW) hl hln (fun y hy ht W' hW'=>HH y hy ht W' (hW.trans hW'))
 have HG:Hid (∀W,Calm w W→W.cell? ⟨g,0,none⟩=some (.int .i64 p.num)∧W.cell? ⟨g,1,none⟩=some (.string (bs p.cl))∧W.cell? ⟨g,2,none⟩=some (.string (bs p.tx))∧W.cell? ⟨g,3,none⟩=some (.bool p.sh)∧W.cell? ⟨g,4,none⟩=some (.slice p.EA n p.ec)∧W.cell? ⟨g,5,none⟩=some (.slice none 0 0)∧W.cell? ⟨x.S,6,none⟩=some (.slice none 0 0)∧g < W.heap.size∧x.S < W.heap.size):=fun W hW=>by
  have h1:=(h.calm hW).pns hp
  have z:=(h.calm hW).z
  have z6:=z.at_ 6 _ rfl
  rw[hHA,hhc,hhs] at z6
  obtain⟨b,o,hA,hb,hk⟩:=h1 (by simp)
  rw[hg] at hA
  cases hA
  have k4:=hk 0 p rfl 4 _ rfl
  rw[hl] at k4
  exact⟨hk 0 p rfl 0 _ rfl,hk 0 p rfl 1 _ rfl,hk 0 p rfl 2 _ rfl,hk 0 p rfl 3 _ rfl,k4,hk 0 p rfl 5 _ rfl,z6,hb,z.lt⟩
 have HCl:Hid (∀W,Calm w W→∃b o,x.CA=some ⟨b,o,none⟩∧W.cell? ⟨b,o+i * 3,none⟩=some (.string (bs c.cl))∧W.cell? ⟨b,o+i * 3+1,none⟩=some (.string ⟨#[109,97,105,110]⟩)∧W.cell? ⟨b,o+i * 3+2,none⟩=some (.slice none 0 0)∧W.cell? ⟨x.S,3,none⟩=some (.slice x.CA x.cs.length x.cc)∧x.S < W.heap.size∧b < W.heap.size):=fun W hW=>by
  have h1:=(h.calm hW).cls
  obtain⟨b,o,hA,hb,hk⟩:=h1 (fun e=>by rw[e] at hcs;simp at hcs)
  exact⟨b,o,hA,hk i _ hcs 0 _ rfl,hk i _ hcs 1 _ rfl,hk i _ hcs 2 _ rfl,(h.calm hW).z.at_ 3 _ rfl,(h.calm hW).z.lt,hb⟩
 obtain⟨cb,co,hCA,_⟩:=HCl.out w (Calm.refl w)
 have hil:i < x.cs.length:=(List.getElem?_eq_some_iff.1 hcs).1
 have HB:=Lib.hid (CmBox.new w c)
 have hO:=(CmBox.new w c).off h
 have HO:=Lib.hid hO
 have HSv:=Lib.hid h
 have HP:=Lib.hid hp
 have HNm:=Lib.hid hn
 have HL:=Lib.hid hl
 have HX:=Lib.hid hX
 have HE0:=Lib.hid (And.intro hrs (And.intro hRA (And.intro hrc (And.intro hhs (And.intro hHA hhc)))))
 have HSm:=Lib.hid hs
 clear h hss hp hn h2 hci hcs hX hl hs hM hg hpc hO hrs hRA hrc hhs hHA hhc HH
 go_enter Tryz.func30,Tryz.ntmps30
 go_wp2_with fail
 refine (K.out (cmBox w c) HB.out.calm).mono ?_
 rintro e w5 ⟨rfl,hc5⟩
 have hb5:=HB.out.to hc5
 obtain⟨g0,g1,g2,g3,g4,g5,s6,gl,lS⟩:=HG.out w5 hb5.calm
 have HB5:=Lib.hid hb5
 have t1:=hb5.c.at_ 1 _ rfl
 have lt:=hb5.c.lt
 obtain⟨w6,hw6⟩:∃w6,w6=w5.alloc (.cells #[.int .i64 p.num,.string (bs p.cl),.string (bs p.tx),.bool p.sh,.slice p.EA n p.ec,.slice none 0 0] 58):=⟨_,rfl⟩
 obtain⟨P6,e6⟩:∃P6,P6=w5.heap.size:=⟨_,rfl⟩
 have hp6:CellsB w6 P6 [.int .i64 p.num,.string (bs p.cl),.string (bs p.tx),.bool p.sh,.slice p.EA n p.ec,.slice none 0 0]:=by
  rw[hw6,e6]
  exact CellsB.new w5 _ _
 have hc56:Calm w5 w6:=by rw[hw6];exact (Calm.refl _).alloc _
 have HP6:=Lib.hid fun (W:World) (hW:Calm w6 W)=>hp6.calm hW
 have HC6:Hid (CmBox w w6 c w.heap.size (w.heap.size+1)):=hb5.to hc56
 have HL6:Hid (w.heap.size+2≤P6):=by have:=hb5.r.lt;show w.heap.size+2≤P6;omega
 clear hc5 hb5 hp6 hc56
 go_wp2_with fail
 rw[←hw6,←e6]
 refine (KC.out w6 HC6.out.calm).mono ?_
 rintro e w7 ⟨rfl,hc7⟩
 have HC7:Hid (CmBox w w7 c w.heap.size (w.heap.size+1)∧Calm w6 w7):=⟨HC6.out.to hc7,hc7⟩
 clear hc7 hw6 e6 g0 g1 g2 g3 g4 g5 s6 gl lS t1 lt
 go_wp2_with fail
 obtain⟨cb',co',hCA',k0,k1,k2,kS,lS,lcb⟩:=HCl.out w7 HC7.out.1.calm
 rw[hCA] at hCA'
 cases hCA'
 rw[hCA] at kS
 have p4:=(HP6.out w7 HC7.out.2).at_ 4 _ rfl
 have l6:=(HP6.out w7 HC7.out.2).lt
 obtain⟨se,hse⟩:∃se,suitE none p.l=se:=⟨_,rfl⟩
 have HSe:=Lib.hid hse
 obtain⟨ncs,hncs⟩:∃ncs,x.cs.length=ncs:=⟨_,rfl⟩
 rw[hncs] at kS hil
 have hil1:(i:Int) < (ncs:Int):=by omega
 have KS2:Hid (∀P:CalmTo w7,Calls Tryz.prog 68 #[.pointer (some ⟨x.S,0,none⟩),.agg #[.string (bs c.cl),.string ⟨#[109,97,105,110]⟩,.slice none 0 0],.slice p.EA n p.ec] P.w fun e w'=>e=.returned (.int .i64 se)∧Calm P.w w'):=fun P=>by
  have:=KS.out P.w (HC7.out.1.calm.trans P.h)
  rw[hse] at this
  exact this
 have e0:=fun P:CalmTo w7=>P.cell k0 lcb
 have e1:=fun P:CalmTo w7=>P.cell k1 lcb
 have e2:=fun P:CalmTo w7=>P.cell k2 lcb
 have e3:=fun P:CalmTo w7=>P.cell kS lS
 have e4:=fun P:CalmTo w7=>P.cell p4 l6
 clear k0 k1 k2 kS lS lcb p4 l6 hse hncs KS
 go_cut [9] (fun s wx=>s=.int .i64 se∧Hid (Calm w7 wx))
 case first=>
  refine wp_region_calm (by kernel_rfl) (by kernel_rfl) ?_
  repeat (go_big_quiet_step ((go_at_call 68;with_reducible exact calmOf (KS2.out _))))
  refine wpQuiet_nil ?_
  intro w8 hc8
  go_wp2_with fail
  go_meet
  case rel=>exact⟨rfl,hc8⟩
 case rest=>
  obtain⟨rfl,hc8⟩:=hcut
  obtain⟨w8,rfl⟩:∃w8,w8=wc:=⟨_,rfl⟩
  have HC8:Hid (CmBox w w8 c w.heap.size (w.heap.size+1)∧Calm w6 w8):=⟨HC7.out.1.to hc8.out,HC7.out.2.trans hc8.out⟩
  clear e0 e1 e2 e3 e4 hc8 KS2 HC7
  by_cases h0:se=0
  ·subst h0
   go_upto_region 8 with (fail)
   have HS8:Hid (∀W,Calm w8 W→W.cell? ⟨x.S,6,none⟩=some (.slice none 0 0)∧W.cell? ⟨P6,1,none⟩=some (.string (bs p.cl))∧W.cell? ⟨P6,2,none⟩=some (.string (bs p.tx))∧W.cell? ⟨P6,4,none⟩=some (.slice p.EA n p.ec)∧W.cell? ⟨P6,5,none⟩=some (.slice none 0 0)):=fun W hW=>by
    obtain⟨_,_,_,_,_,_,s6,_,_⟩:=HG.out W (HC8.out.1.calm.trans hW)
    have h6:=HP6.out W (HC8.out.2.trans hW)
    exact⟨s6,h6.at_ 1 _ rfl,h6.at_ 2 _ rfl,h6.at_ 4 _ rfl,h6.at_ 5 _ rfl⟩
   go_cut [10] (fun a wx=>∃P10,a=.pointer (some ⟨P10,0,none⟩)∧Hid (CellsB wx P10 [.int .i64 1,.string (bs p.cl),.string (bs p.tx),.slice p.EA n p.ec,.slice none 0 0]∧Calm w8 wx∧w8.heap.size≤P10))
   case first=>
    clear HC8 HG HP6 HSv HB5 HC6 HO HB HCl
    go_region_held3 (fun W=>W.cell? ⟨x.S,6,none⟩=some (.slice none 0 0)∧W.cell? ⟨P6,1,none⟩=some (.string (bs p.cl))∧W.cell? ⟨P6,2,none⟩=some (.string (bs p.tx))∧W.cell? ⟨P6,4,none⟩=some (.slice p.EA n p.ec)∧W.cell? ⟨P6,5,none⟩=some (.slice none 0 0))
     (first
      |with_reducible exact HS8.out _ (Calm.refl _)
      |with_reducible exact HS8.out _ (Below.drew (Calm.refl _))
      |with_reducible exact HS8.out _ (Below.drew ((Calm.refl _).alloc _))
      |with_reducible exact HS8.out _ ((Calm.refl _).alloc _)
      |with_reducible exact HS8.out _ ((Below.drew (Calm.refl _)).alloc _)
      |go_keep)
     (fail)
    all_goals
     go_wp2_with fail
     go_meet
     case rel=>first
      |exact⟨_,rfl,Lib.hid ⟨CellsB.new w8 _ _,(Calm.refl _).alloc _,Nat.le_refl _⟩⟩
      |exact⟨_,rfl,Lib.hid ⟨(CellsB.new w8 _ _).calm (Below.drew (Calm.refl _)),Below.drew ((Calm.refl _).alloc _),Nat.le_refl _⟩⟩
      |exact⟨_,rfl,Lib.hid ⟨CellsB.new w8.drew _ _,(Below.drew (Calm.refl _)).alloc _,Nat.le_refl _⟩⟩
   case rest=>
    obtain⟨P10,rfl,HQ10⟩:=hcut
    obtain⟨w10,rfl⟩:∃w10,w10=wc:=⟨_,rfl⟩
    go_upto_region 9 with (fail)
    have HC10:Hid (CmBox w w10 c w.heap.size (w.heap.size+1)∧Calm w8 w10):=⟨HC8.out.1.to HQ10.out.2.1,HQ10.out.2.1⟩
    have HP10:=Lib.hid fun (W:World) (hW:Calm w10 W)=>HQ10.out.1.calm hW
    have HS9:Hid (∀W,Calm w10 W→W.cell? ⟨x.S,4,none⟩=some (.slice none 0 0)∧W.cell? ⟨x.S,5,none⟩=some (.slice none 0 0)∧W.cell? ⟨P10,0,none⟩=some (.int .i64 1)∧W.cell? ⟨P10,1,none⟩=some (.string (bs p.cl))∧W.cell? ⟨P10,2,none⟩=some (.string (bs p.tx))∧W.cell? ⟨P10,3,none⟩=some (.slice p.EA n p.ec)∧W.cell? ⟨P10,4,none⟩=some (.slice none 0 0)):=fun W hW=>by
     have z:=(HSv.out.calm (HC10.out.1.calm.trans hW)).z
     have z4:=z.at_ 4 _ rfl
     rw[HE0.out.1,HE0.out.2.1,HE0.out.2.2.1] at z4
     have h10:=HP10.out W hW
     exact⟨z4,z.at_ 5 _ rfl,h10.at_ 0 _ rfl,h10.at_ 1 _ rfl,h10.at_ 2 _ rfl,h10.at_ 3 _ rfl,h10.at_ 4 _ rfl⟩
    have KA2:Hid (∀W,Calm w10 W→Calls Tryz.prog 72 #[.agg #[.slice none 0 0,.slice none 0 0],.agg #[.int .i64 1,.string (bs p.cl),.string (bs p.tx),.slice p.EA n p.ec,.slice none 0 0]] W fun e w'=>(∃A m ca ae,e=.returned (.tuple #[.agg #[.slice A m ca,.slice none 0 0],.int .i64 ae])∧Hid (AppOr W.heap.size w' p.l A m ca ae))∧Calm W w'):=fun W hW=>
     (KA.out W (HC10.out.1.calm.trans hW)).mono fun e w' h=>⟨appOr_of h.1,h.2⟩
    go_cut [11,12] (fun a s wx=>∃P11 A m ca ae,a=.pointer (some ⟨P11,0,none⟩)∧s=.int .i64 ae∧Hid (CellsB wx P11 [.slice A m ca,.slice none 0 0]∧Calm w10 wx∧AppOr w10.heap.size wx p.l A m ca ae∧w10.heap.size≤P11))
    case first=>
     clear HC8 HG HP6 HSv HB5 HC6 HO HB HCl HC10 HP10 HQ10 HS8 KA KF K KC
     go_region_held3 (fun W=>W.cell? ⟨x.S,4,none⟩=some (.slice none 0 0)∧W.cell? ⟨x.S,5,none⟩=some (.slice none 0 0)∧W.cell? ⟨P10,0,none⟩=some (.int .i64 1)∧W.cell? ⟨P10,1,none⟩=some (.string (bs p.cl))∧W.cell? ⟨P10,2,none⟩=some (.string (bs p.tx))∧W.cell? ⟨P10,3,none⟩=some (.slice p.EA n p.ec)∧W.cell? ⟨P10,4,none⟩=some (.slice none 0 0))
      (first
       |with_reducible exact HS9.out _ (calm_set2 hcx (Nat.le_refl _) _ _)
       |with_reducible exact HS9.out _ (Calm.refl _)
       |with_reducible exact HS9.out _ (Below.drew (Calm.refl _))
       |with_reducible exact HS9.out _ (Below.drew ((Calm.refl _).alloc _))
       |with_reducible exact HS9.out _ ((Calm.refl _).alloc _)
       |with_reducible exact HS9.out _ hcx
       |with_reducible exact HS9.out _ (Calm.alloc hcx _)
       |go_keep)
      (first
       |(go_at_call 72;refine (KA2.out _ (by first | exact Calm.refl _ | exact Below.drew (Calm.refl _) | exact (Calm.refl _).alloc _ | exact (Below.drew (Calm.refl _)).alloc _ | exact Below.drew ((Calm.refl _).alloc _))).mono ?_;rintro e w11 ⟨⟨A,m,ca,ae,rfl,hA⟩,hc11⟩;have hcx:Calm w10 w11:=Calm.trans (by first | exact Calm.refl _ | exact Below.drew (Calm.refl _) | exact (Calm.refl _).alloc _ | exact (Below.drew (Calm.refl _)).alloc _ | exact Below.drew ((Calm.refl _).alloc _)) hc11;(first | (with_reducible have hZ11:CellsB w11 w10.heap.size [.slice none 0 0,.slice none 0 0]:=CellsB.calm (by first | with_reducible exact CellsB.new w10 _ _ | with_reducible exact (CellsB.new w10 _ _).calm (Below.drew (Calm.refl _)) | with_reducible exact CellsB.new w10.drew _ _) hc11;have f0:=hZ11.fz 0;have f1:=hZ11.fz 1;have z0:=hZ11.at_ 0 _ rfl;have z1:=hZ11.at_ 1 _ rfl) | skip)))
     all_goals
      go_wp2_with fail
      go_meet
      case rel=>first
       |(with_reducible refine⟨_,A,m,ca,ae,rfl,rfl,Lib.hid ⟨CellsB.new w11 _ _,hcx.alloc _,?_,hcx.size⟩⟩;exact AppOr.kp hA.out (((Calm.refl _).alloc _).kp _) (Nat.le_refl _))
       |(refine⟨w10.heap.size,A,m,ca,ae,rfl,rfl,Lib.hid ⟨hZ11.put [.slice A m ca,.slice none 0 0] rfl,calm_set2 hcx (Nat.le_refl _) _ _,?_,Nat.le_refl _⟩⟩;exact AppOr.kp hA.out (Kp.set2 (Kp.refl _ _) (b:=w10.heap.size) (.inl (by simp)) _ _) (by simp))
    case rest=>
     obtain⟨P11,A,m,ca,ae,rfl,rfl,HQ11⟩:=hcut
     obtain⟨w11,rfl⟩:∃w11,w11=wc:=⟨_,rfl⟩
     have HC11:Hid (CmBox w w11 c w.heap.size (w.heap.size+1)∧Calm w6 w11∧Calm w8 w11):=⟨HC10.out.1.to HQ11.out.2.1,HC8.out.2.trans (HC10.out.2.trans HQ11.out.2.1),HC10.out.2.trans HQ11.out.2.1⟩
     by_cases hae:ae=0
     ·subst hae
      have hA:Hid (appE 1 p.l=0∧m=n∧Stays (fun i=>i < w10.heap.size) w11 (fun U=>ReadX RowK.vs 12 U A (p.l.map (revR 1)))):=by
       rcases HQ11.out.2.2.1 with⟨h1,_⟩ | ⟨_,h1,h2,h3⟩
       ·exact absurd rfl h1
       ·exact⟨h1,h2.trans HL.out,h3⟩
      obtain⟨fe,hfe⟩:∃fe,fencedS q p.l=fe:=⟨_,rfl⟩
      have HFe:=Lib.hid hfe
      rw[hfe] at KF
      have t1:=HC11.out.1.c.at_ 1 _ rfl
      have lt:=HC11.out.1.c.lt
      have p4:=(HP6.out w11 HC11.out.2.1).at_ 4 _ rfl
      have l6:=(HP6.out w11 HC11.out.2.1).lt
      clear hfe
      go_wp2_with fail
      refine (KF.out w11 HC11.out.1.calm).mono ?_
      rintro e w12 ⟨rfl,hc12⟩
      have HC12:Hid (CmBox w w12 c w.heap.size (w.heap.size+1)∧Calm w11 w12):=⟨HC11.out.1.to hc12,hc12⟩
      clear hc12 t1 lt p4 l6
      cases fe with
      |false=>
       have hsub:Hid (subE q p.l=215):=by
        show subE q p.l=215
        unfold subE
        rw[HSe.out,if_neg (by simp),if_neg (by rw[hA.out.1];simp),if_pos HFe.out]
       have hb7:=HC12.out.1
       have r0:=hb7.r.at_ 0 _ rfl
       have r1:=hb7.r.at_ 1 _ rfl
       have r2:=hb7.r.at_ 2 _ rfl
       have f0:=hb7.r.fz 0
       have f1:=hb7.r.fz 1
       have f2:=hb7.r.fz 2
       have lr:=hb7.r.lt
       clear hb7
       go_wp2_with fail
       refine bodyPost_ret (v:=.tuple #[rep0,.int .i64 215]) ?_ rfl (.inl ⟨by rw[hsub.out];decide,by rw[hsub.out],?_⟩)
       ·rw[results_cell_slot rfl]
        go_simp
       ·exact Went.box' HSv.out (Went.same HSv.out HC12.out.1.calm) (b:=w.heap.size+1) (by omega) HO.out.2 (Kp.set3 (F:=fun i=>i=w.heap.size+1) (Kp.refl _ _) (.inl rfl) _ _ _) ⟨rfl,rfl,rfl,rfl,rfl,rfl⟩ (fun q hq=>⟨q,hq,rfl,rfl⟩)
      |true=>
       obtain⟨hA1,hA2,hA3⟩:=hA.out
       obtain rfl:m=n:=hA2
       have hz:=(HSv.out.calm HC12.out.1.calm).z
       have s4:=hz.at_ 4 _ rfl
       have s5:=hz.at_ 5 _ rfl
       have sf4:=hz.fz 4
       have sf5:=hz.fz 5
       have lS:=hz.lt
       have h11:=HQ11.out.1.calm HC12.out.2
       have q0:=h11.at_ 0 _ rfl
       have q1:=h11.at_ 1 _ rfl
       have l11:=h11.lt
       have HC2:Hid (Calm w w12):=HC12.out.1.calm
       have hdep:=(HSv.out.calm HC2.out).putDep A ca (p.l.map (revR 1)) (fun U kU=>hA3 U ((HC12.out.2.kp _).trans (kU.mono fun i hi=>.inl (by
        have:=HSv.out.lt i hi
        have h2:=HC10.out.1.calm.size
        omega))))
       rw[List.length_map,HL.out] at hdep
       have HDep:=Lib.hid hdep
       clear hz h11 hA3 hdep
       go_upto_region 15 with (fail)
       obtain⟨w14,hw14⟩:∃w14,w14=(w12.setCell ⟨x.S,4,none⟩ (.slice A m ca)).setCell ⟨x.S,5,none⟩ (.slice none 0 0):=⟨_,rfl⟩
       rw[←hw14] at HDep ⊢
       clear hw14 s4 s5 sf4 sf5 lS q0 q1 l11
       have HP14:Hid (CellsB w14 P10 [.int .i64 1,.string (bs p.cl),.string (bs p.tx),.slice p.EA m p.ec,.slice none 0 0]∧CmBox w w11 c w.heap.size (w.heap.size+1)):=⟨(HP10.out w12 (HQ11.out.2.1.trans HC12.out.2)).kp HDep.out.kp (fun hf=>by
        have h1:=HSv.out.lt _ hf
        have h2:=HQ10.out.2.2
        have h3:=HC8.out.1.calm.size
        omega),HC11.out.1⟩
       have s6:w14.cell? ⟨x.S,6,none⟩=some (.slice none 0 0):=by
        have:=HDep.out.at_.z.at_ 6 _ rfl
        simp only[HE0.out.2.2.2.1,HE0.out.2.2.2.2.1,HE0.out.2.2.2.2.2] at this
        exact this
       have lS:=HDep.out.at_.z.lt
       have a0:=HP14.out.1.at_ 0 _ rfl
       have a1:=HP14.out.1.at_ 1 _ rfl
       have a2:=HP14.out.1.at_ 2 _ rfl
       have a3:=HP14.out.1.at_ 3 _ rfl
       have a4:=HP14.out.1.at_ 4 _ rfl
       have l10:=HP14.out.1.lt
       have HSf:Hid (∀U,Calm w14 U→U.cell? ⟨x.S,6,none⟩=some (.slice none 0 0)∧U.frozen? ⟨x.S,6,none⟩=false∧x.S < U.heap.size):=fun U hU=>by
        have z:=(HDep.out.at_.calm hU).z
        have z6:=z.at_ 6 _ rfl
        simp only[HE0.out.2.2.2.1,HE0.out.2.2.2.2.1,HE0.out.2.2.2.2.2] at z6
        exact⟨z6,z.fz 6,z.lt⟩
       have ARM:∀{ops:Array Oper} {o:Oper} {a:Act} {R:Act→World→Prop} {Q:Exit→Act→World→Prop} {E:Prop},o.guard=none→o.op=Op.call { callee:=Callee.builtin Builtin.append,args:=#[.tmp 93,.tmp 95],argTypes:=#[51,51] }→a.eval (.tmp 93)=.slice none 0 0→a.eval (.tmp 95)=.slice (some ⟨w14.heap.size,0,none⟩) 1 1 →
         (∀g3 c13 w13,(w13.cell? ⟨x.S,6,none⟩=some (.slice none 0 0)∧w13.frozen? ⟨x.S,6,none⟩=false∧x.S < w13.heap.size)→Hid (w13.ownsRow 0 60 5 (.slice (some ⟨g3,0,none⟩) 1 c13) 1 (encCg ⟨1,p.cl,p.tx,p.EA,p.ec,p.l⟩)∧Calm w14 w13∧w14.heap.size≤g3)→R (a.put o.dst (.slice (some ⟨g3,0,none⟩) 1 c13)) w13) →
         if Region.wanted o (yielded ops a.tmps)=true then Oper.wp Tryz.prog o a (w14.alloc (.cells #[.int .i64 1,.string (bs p.cl),.string (bs p.tx),.slice p.EA m p.ec,.slice none 0 0] 60)).drew R Q else E:=by
        intro ops o a R Q E hg hop h36 h46 hK
        refine step_append_xf (enc:=encCg) (K:=5) (T:=60) Tryz.underlying51 infoK_Change rfl (by decide) (by decide) encCg_len encCg_one hg (.tmp 93) (.tmp 95) hop w14 (.slice none 0 0) [] [⟨1,p.cl,p.tx,p.EA,p.ec,p.l⟩] h36 ⟨Below.drew (Calm.alloc (Calm.refl _) _),rfl,.inl ⟨rfl,rfl⟩⟩ (some ⟨w14.heap.size,0,none⟩) 1 1 h46 rfl ((read_one (enc:=encCg) (K:=5) w14 _ _ #[.int .i64 1,.string (bs p.cl),.string (bs p.tx),.slice p.EA m p.ec,.slice none 0 0] (by simp only[encCg,HL.out])).calm (Below.drew (Calm.refl _))) (by simp) ?_
        intro v13 w13 hown13 hg13 hfr13
        have hcm:=hown13.calm
        have hown:=hown13.own
        rcases hown13.row encCg_len with⟨_,h1⟩ | ⟨g3,c13,h1,_,_,hg3,_⟩
        ·simp at h1
        ·subst h1
         refine hK g3 c13 w13 (HSf.out _ hcm) ⟨?_,hcm,hg3⟩
         rw[show encs encCg ([]++[(⟨1,p.cl,p.tx,p.EA,p.ec,p.l⟩:Chg)])=encCg ⟨1,p.cl,p.tx,p.EA,p.ec,p.l⟩ by simp[encs]] at hown
         exact owns_mono hown (Nat.zero_le _)
       go_cut [] (fun wx=>∃g3 c13 w13,wx=w13.setCell ⟨x.S,6,none⟩ (.slice (some ⟨g3,0,none⟩) 1 c13)∧Hid (w13.ownsRow 0 60 5 (.slice (some ⟨g3,0,none⟩) 1 c13) 1 (encCg ⟨1,p.cl,p.tx,p.EA,p.ec,p.l⟩)∧Calm w14 w13∧w14.heap.size≤g3))
       case first=>
        clear HC8 HG HP6 HSv HB5 HC6 HO HB HCl HC10 HP10 HQ10 HS8 KA KF K KC HQ11 HC11 HC12 HDep HP14 HS9 KA2 HE0 HSf HL6 HX HSm
        go_region_law (refine ARM rfl rfl (by simp[Act.eval,Act.put]) (by simp[Act.eval,Act.put]) ?_;intro g3 c13 w13 hq hown13;obtain⟨q7,qf,ql⟩:=hq)
        all_goals
         go_wp2_with fail
         go_meet
         case rel=>exact⟨g3,c13,w13,rfl,hown13⟩
       case rest=>
        obtain⟨g3,c13,w13,hwx,hown13⟩:=hcut
        obtain⟨w15,rfl⟩:∃w15,w15=wc:=⟨_,rfl⟩
        have hcg:=HDep.out.at_.putCg ⟨1,p.cl,p.tx,p.EA,p.ec,p.l⟩ hown13.out.2.1 hown13.out.2.2 hown13.out.1 (((HSv.out.eds p (by rw[HP.out];exact List.mem_singleton.2 rfl)).calm HC2.out).kp HDep.out.kp)
        simp only at hcg
        rw[←hwx] at hcg
        have HCg:=Lib.hid hcg
        have HK15:Hid (Kp x.F w12 w15):=(HDep.out.trans hcg).kp
        have KD:=Lib.hid fun (W:World) (hW:Calm w15 W)=>drop_c { x with RA:=A,rc:=ca,rs:=p.l.map (revR 1),HA:=some ⟨g3,0,none⟩,hc:=c13,hs:=[⟨1,p.cl,p.tx,p.EA,p.ec,p.l⟩] } p c.num W (hcg.at_.calm hW) HP.out HNm.out
        have hbx:=HC12.out.1.kp HK15.out HO.out.1 HO.out.2
        have t4:=hbx.1.at_ 4 _ rfl
        have lt:=hbx.1.lt
        have HWx:Hid (Kp x.F w13 w15):=by
         show Kp x.F w13 w15
         rw[hwx]
         exact kp_set w13 _ _ _ (.inl rfl)
        clear hcg hbx hwx s6 lS a0 a1 a2 a3 a4 l10
        go_wp2_with fail
        refine (KD.out w15 (Calm.refl _)).mono ?_
        rintro e w17 ⟨rfl,hw17⟩
        have HW17:=Lib.hid hw17
        have HK17:Hid (Kp x.F w12 w17):=(HDep.out.trans (HCg.out.trans hw17)).kp
        clear hw17 t4 lt
        have hF10:¬x.F P10:=fun hf=>by
         have h1:=HSv.out.lt _ hf
         have h2:=HQ10.out.2.2
         have h3:=HC8.out.1.calm.size
         omega
        have H10:Hid (∀W,Calm w17 W→CellsB W P10 [.int .i64 1,.string (bs p.cl),.string (bs p.tx),.slice p.EA m p.ec,.slice none 0 0]):=fun W hW=>((HP10.out w12 (HQ11.out.2.1.trans HC12.out.2)).kp HK17.out hF10).calm hW
        have HX17:Hid (∀W,Calm w17 W→ReadX encEd 12 W p.EA p.l):=fun W hW=>((((HSv.out.eds p (by rw[HP.out];exact List.mem_singleton.2 rfl)).calm HC2.out).kp HK17.out).calm hW).now
        have HR17:Hid (∀W,Calm w17 W→CellsB W (w.heap.size+1) [.int .i64 0,.int .i64 0,.int .i64 0]):=fun W hW=>(HC12.out.1.kp HK17.out HO.out.1 HO.out.2).2.calm hW
        have HAct:Hid (∀y∈p.l,y.act=1):=by
         have h1:=hA1
         unfold appE at h1
         split at h1
         ·next h2=>exact absurd h1 h2
         ·exact fun y hy=>everyE_add h1 y hy
        have HWall:Hid (Went w x w17 { x with RA:=A,rc:=ca,rs:=p.l.map (revR 1),HA:=some ⟨g3,0,none⟩,hc:=c13,hs:=[⟨1,p.cl,p.tx,p.EA,p.ec,p.l⟩],ps:=[] }):=(((Went.same HSv.out HC2.out).trans HDep.out).trans HCg.out).trans HW17.out
        have a3:=(H10.out w17 (Calm.refl _)).at_ 3 _ rfl
        have l10:=(H10.out w17 (Calm.refl _)).lt
        clear hF10
        go_wp2_with fail
        go_loopw [106] (fun v wr=>∃j:Nat,j≤m∧v=.int .i64 j∧Hid (Calm w17 wr)) (fun v _=>m - (intOf v).toNat)
        case atStart=>exact⟨0,Nat.zero_le _,rfl,Calm.refl _⟩
        case round=>
         obtain⟨j,hj,rfl,HW⟩:=hrel
         obtain⟨wq,rfl⟩:∃wq,wq=wr:=⟨_,rfl⟩
         by_cases hlt:j < m
         ·obtain⟨b,o,y,hEA,hb,hx,hat⟩:=edits_get (HX17.out wq HW.out) (k:=j) (by rw[HL.out];exact hlt)
          have hact:=HAct.out y (List.mem_of_getElem? hx)
          have c0:=hat.c0
          have c1:=hat.c1
          have c2:=hat.c2
          have c3:=hat.c3
          have c4:=hat.c4
          have c5:=hat.c5
          have c6:=hat.c6
          have c7:=hat.c7
          have c8:=hat.c8
          have c9:=hat.c9
          have c10:=hat.c10
          have c11:=hat.c11
          rw[hact] at c1
          clear hat hx hact
          rw[hEA]
          go_wp2_with fail
          go_roundw
          case rel=>exact⟨j+1,by omega,by go_num,HW.out.alloc _⟩
          case measure=>simp[intOf];omega
         ·have hjm:¬((j:Int) < (m:Int)):=by omega
          have hr:=HR17.out wq HW.out
          have r0:=hr.at_ 0 _ rfl
          have r1:=hr.at_ 1 _ rfl
          have r2:=hr.at_ 2 _ rfl
          have f0:=hr.fz 0
          have f1:=hr.fz 1
          have f2:=hr.fz 2
          have lr:=hr.lt
          have a0:=(H10.out wq HW.out).at_ 0 _ rfl
          have l10q:=(H10.out wq HW.out).lt
          have hsub:Hid (subE q p.l=0):=by
           show subE q p.l=0
           unfold subE
           rw[HSe.out,if_neg (by simp),if_neg (by rw[hA1];simp),if_neg (by rw[HFe.out];simp)]
          clear hr
          go_wp2_with fail
          refine bodyPost_ret (v:=.tuple #[.agg #[.int .i64 1,.int .i64 0,.int .i64 0],.int .i64 0]) ?_ rfl (.inr ⟨hsub.out,rfl,A,ca,some ⟨g3,0,none⟩,c13,?_⟩)
          ·rw[results_cell_slot rfl]
           go_simp
          ·have hlt4:w.heap.size+1 < w10.heap.size:=HC10.out.1.r.lt
           have hg3:w.heap.size+1 < g3:=by
            have h1:=hown13.out.2.2
            have h2:=HDep.out.kp.size
            have h3:=HC12.out.1.r.lt
            omega
           have hsz:w.heap.size≤w10.heap.size:=HC10.out.1.calm.size
           have hFl:∀i,(x.F i∨i=w.heap.size+1)→i < w10.heap.size:=fun i hi=>by
            rcases hi with hi | hi
            ·exact Nat.lt_of_lt_of_le (HSv.out.lt i hi) hsz
            ·omega
           have hFx:∀i,x.F i→i < w10.heap.size:=fun i hi=>hFl i (.inl hi)
           refine⟨?_,Stays.kp' (F:=fun i=>i < w10.heap.size) hA.out.2.2 (((HC12.out.2.kp _).trans ((HK17.out.mono fun i hi=>.inl (hFx i hi)).then_calm HW.out)).trans (Kp.set3 (Kp.refl _ _) (b:=w.heap.size+1) (.inl hlt4) _ _ _)) (fun i hi=>.inl (Nat.lt_of_lt_of_le hi hsz)),Stays.kp' (F:=fun i=>i < w10.heap.size) (one_stays (encCg_len _) hown13.out.1 (fun hf=>by
             have h1:=hown13.out.2.2
             have h2:=HDep.out.kp.size
             have h3:=HC12.out.2.size
             have h4:=HQ11.out.2.1.size
             have h5:g3 < w10.heap.size:=hf
             omega)) ((((HWx.out.trans HW17.out.kp).then_calm HW.out).mono fun i hi=>.inl (hFx i hi)).trans (Kp.set3 (Kp.refl _ _) (b:=w.heap.size+1) (.inl hlt4) _ _ _)) (fun i hi=>.inl (Nat.lt_of_lt_of_le hi hsz))⟩
           refine Went.box HSv.out (HWall.out.calm HW.out) (b:=w.heap.size+1) (by omega) HO.out.2 (Kp.set3 (F:=fun i=>i=w.heap.size+1) (Kp.refl _ _) (.inl rfl) _ _ _) (.inl ⟨rfl,rfl⟩) (.inr ?_) (.inr ⟨?_,fun ch hch=>?_⟩) (fun q hq=>by cases hq)
           ·intro U kU
            exact hA.out.2.2 U (((HC12.out.2.kp _).trans ((HK17.out.mono fun i hi=>.inl (hFl i (.inl hi))).then_calm HW.out)).trans (kU.mono fun i hi=>.inl (hFl i hi)))
           ·have h1:Stays (fun i=>x.F i∨i=w.heap.size+1) w13 (fun W=>ReadX encCg 5 W (some ⟨g3,0,none⟩) [⟨1,p.cl,p.tx,p.EA,p.ec,p.l⟩]):=one_stays (encCg_len _) hown13.out.1 (fun hf=>by
             have:=hFl g3 hf
             have h1:=hown13.out.2.2
             have h2:=HDep.out.kp.size
             have h3:=HC12.out.2.size
             have h4:=HQ11.out.2.1.size
             omega)
            exact h1.kp (((HWx.out.trans HW17.out.kp).then_calm HW.out).mono fun i hi=>.inl (.inl hi))
           ·rw[List.mem_singleton.1 hch]
            exact (HSv.out.eds p (by rw[HP.out];exact List.mem_singleton.2 rfl)).kp' ((((HC2.out.kp _).trans HK17.out)).then_calm HW.out) (fun i hi=>hi.imp id (fun h=>by omega))
     ·have hae':(ae != 0)=true:=by simpa using hae
      have HC12:Hid (CmBox w w11 c w.heap.size (w.heap.size+1)∧Calm w11 w11):=⟨HC11.out.1,Calm.refl _⟩
      have hsub:Hid (subE q p.l=ae):=by
       have h1:appE 1 p.l=ae:=by
        rcases HQ11.out.2.2.1 with⟨_,h1⟩ | ⟨h1,_⟩
        ·exact h1
        ·exact absurd h1 hae
       show subE q p.l=ae
       unfold subE
       rw[HSe.out,if_neg (by simp),h1,if_pos hae]
      have hb7:=HC12.out.1
      have r0:=hb7.r.at_ 0 _ rfl
      have r1:=hb7.r.at_ 1 _ rfl
      have r2:=hb7.r.at_ 2 _ rfl
      have f0:=hb7.r.fz 0
      have f1:=hb7.r.fz 1
      have f2:=hb7.r.fz 2
      have lr:=hb7.r.lt
      clear hb7
      go_wp2_with fail
      refine bodyPost_ret (v:=.tuple #[rep0,.int .i64 ae]) ?_ rfl (.inl ⟨by rw[hsub.out];exact hae,by rw[hsub.out],?_⟩)
      ·rw[results_cell_slot rfl]
       go_simp
      ·exact Went.box' HSv.out (Went.same HSv.out HC12.out.1.calm) (b:=w.heap.size+1) (by omega) HO.out.2 (Kp.set3 (F:=fun i=>i=w.heap.size+1) (Kp.refl _ _) (.inl rfl) _ _ _) ⟨rfl,rfl,rfl,rfl,rfl,rfl⟩ (fun q hq=>⟨q,hq,rfl,rfl⟩)
  ·have h0':(se != 0)=true:=by simpa using h0
   have hb7:=HC8.out.1
   have r0:=hb7.r.at_ 0 _ rfl
   have r1:=hb7.r.at_ 1 _ rfl
   have r2:=hb7.r.at_ 2 _ rfl
   have f0:=hb7.r.fz 0
   have f1:=hb7.r.fz 1
   have f2:=hb7.r.fz 2
   have lr:=hb7.r.lt
   have hsub:Hid (subE q p.l=se):=by
    show subE q p.l=se
    unfold subE
    rw[HSe.out,if_pos h0]
   clear hb7
   go_wp2_with fail
   refine bodyPost_ret (v:=.tuple #[rep0,.int .i64 se]) ?_ rfl (.inl ⟨by rw[hsub.out];exact h0,by rw[hsub.out],?_⟩)
   ·rw[results_cell_slot rfl]
    go_simp
   ·exact Went.box' HSv.out (Went.same HSv.out HC8.out.1.calm) (b:=w.heap.size+1) (by omega) HO.out.2 (Kp.set3 (F:=fun i=>i=w.heap.size+1) (Kp.refl _ _) (.inl rfl) _ _ _) ⟨rfl,rfl,rfl,rfl,rfl,rfl⟩ (fun q hq=>⟨q,hq,rfl,rfl⟩)
end Go.Proofs.YtcofdlipapnohaaGreatDoor
