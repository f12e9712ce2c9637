/- Walk: a copy of a state (printed by gen_state.py). -/
import Derived.Test.YtcofdlipapnohaaGreatDoorZCpSs
import Derived.Test.YtcofdlipapnohaaGreatDoorZInsC
import Derived.Test.YtcofdlipapnohaaGreatDoorZDoPt
import Derived.Test.YtcofdlipapnohaaGreatDoorZDoSt
set_option linter.unusedVariables false
set_option linter.unusedSimpArgs false
namespace Go.Proofs.YtcofdlipapnohaaGreatDoor
open Go Go.RowKit Sy
theorem infoK_ChgL:(Tryz.prog.info? 60).map (fun i=>(i.zero,i.size,i.bytes))=some (some (.agg #[.int .i64 0,.string ⟨#[]⟩,.string ⟨#[]⟩,.slice none 0 0,.slice none 0 0]),5,88):=by kernel_rfl
set_option maxRecDepth 100000 in
set_option maxHeartbeats 8000000 in
theorem copyChange_c (p:Chg) (n:Nat) (w:World) (hX:ReadX encEd 12 w p.EA p.l) (hn:p.l.length=n) (hle:n≤64) :
  Calls Tryz.prog 49 #[.agg #[.int .i64 p.num,.string (bs p.cl),.string (bs p.tx),.slice p.EA n p.ec,.slice none 0 0]] w fun e w'=>(∃A c,e=.returned (.agg #[.int .i64 p.num,.string (bs p.cl),.string (bs p.tx),.slice A n c,.slice none 0 0])∧Stays (fun i=>i < w.heap.size) w' (fun U=>ReadX encEd 12 U A p.l))∧Calm w w':=by
 obtain⟨w2,hw2⟩:∃w2,w2=(w.alloc (.cells #[.int .i64 p.num,.string (bs p.cl),.string (bs p.tx),.slice p.EA n p.ec,.slice none 0 0] 60)).alloc (.cells #[.int .i64 0,.string ⟨#[]⟩,.string ⟨#[]⟩,.slice none 0 0,.slice none 0 0] 60):=⟨_,rfl⟩
 have hc2:Calm w w2:=by rw[hw2];exact ((Calm.refl _).alloc _).alloc _
 obtain⟨P3,e3⟩:∃P3,w.heap.size=P3:=⟨_,rfl⟩
 obtain⟨P4,e4⟩:∃P4,P3+1=P4:=⟨_,rfl⟩
 have h3:CellsB w2 P3 [.int .i64 p.num,.string (bs p.cl),.string (bs p.tx),.slice p.EA n p.ec,.slice none 0 0]:=by
  rw[hw2,←e3]
  exact (CellsB.new w _ _).calm ((Calm.refl _).alloc _)
 have h4:CellsB w2 P4 [.int .i64 0,.string ⟨#[]⟩,.string ⟨#[]⟩,.slice none 0 0,.slice none 0 0]:=by
  rw[hw2,←e4,←e3]
  have:=CellsB.new (w.alloc (.cells #[.int .i64 p.num,.string (bs p.cl),.string (bs p.tx),.slice p.EA n p.ec,.slice none 0 0] 60)) #[.int .i64 0,.string ⟨#[]⟩,.string ⟨#[]⟩,.slice none 0 0,.slice none 0 0] 60
  rwa [World.size_alloc] at this
 have KE:Hid (∀W,Calm w2 W→Calls Tryz.prog 70 #[.slice p.EA n p.ec] W fun e w'=>CloneK 12 32 W (p.l.map Edt.row) n e w'):=fun W hW=>
  cloneEdit_c (p.l.map Edt.row) p.EA n p.ec W (read_row (hX.calm (hc2.trans hW))) (by rw[List.length_map];exact hn) (by omega)
 have HBf:Hid (∀W,Calm w2 W→W.cell? ⟨P3,3,none⟩=some (.slice p.EA n p.ec)∧W.cell? ⟨P3,4,none⟩=some (.slice none 0 0)∧W.frozen? ⟨P3,3,none⟩=false∧W.frozen? ⟨P3,4,none⟩=false∧P3 < W.heap.size):=fun W hW=>by
  have h:=h3.calm hW
  exact⟨h.at_ 3 _ rfl,h.at_ 4 _ rfl,h.fz 3,h.fz 4,h.lt⟩
 have HW:=Lib.hid hw2
 have HE:=Lib.hid (And.intro e3 e4)
 have HC2:=Lib.hid hc2
 have H3:=Lib.hid h3
 have H4:=Lib.hid h4
 obtain⟨z4,z5,_,_,lz⟩:=HBf.out w2 (Calm.refl _)
 clear hX hn hle hw2 hc2 e3 e4 h3 h4
 go_enter Tryz.func49,Tryz.ntmps49
 go_upto_region 1 with (fail)
 rw[←HW.out]
 simp only[HE.out.1,HE.out.2]
 go_cut [] (fun wx=>∃A8 c8 w8,wx=(w8.setCell ⟨P3,3,none⟩ (.slice A8 n c8)).setCell ⟨P3,4,none⟩ (.slice none 0 0)∧Hid (OwnX RowK.vs 12 32 w2.drew w8 (.slice A8 n c8) (p.l.map Edt.row)))
 case first=>
  clear HW HE HC2 H3 H4
  go_region_law (first
   |(refine step_go_f rfl 70 _ _ rfl #[.slice p.EA n p.ec] (by go_simp) (KE.out _ (Below.drew (Calm.refl _))) ?_;rintro e w8 ⟨A8,c8,rfl,hown⟩;refine⟨_,rfl,?_⟩;have hc8:Calm w2 w8:=Calm.trans (Below.drew (Calm.refl w2)) hown.calm;obtain⟨z4,z5,zf4,zf5,lz⟩:=HBf.out w8 hc8;have HO8:=Lib.hid hown;clear hown)
   |(refine step_go_f rfl 47 _ _ rfl #[.slice none 0 0] (by go_simp) (cloneNilRec_c _) ?_;rintro e w9 ⟨rfl,rfl⟩;refine⟨_,rfl,?_⟩))
  all_goals
   go_wp2_with fail
   go_meet
   case rel=>exact⟨A8,c8,w8,rfl,HO8.out⟩
 case rest=>
  obtain⟨A8,c8,w8,hwx,HO8⟩:=hcut
  have hc8:Calm w2 w8:=Calm.trans (Below.drew (Calm.refl w2)) HO8.out.calm
  have kS:Kp (fun i=>i=P3) w8 wc:=by
   rw[hwx]
   exact ((Kp.refl (fun i=>i=P3) w8).set1 (b:=P3) (.inl rfl) 3 _).set1 (b:=P3) (.inl rfl) 4 _
  have h3:CellsB wc P3 [.int .i64 p.num,.string (bs p.cl),.string (bs p.tx),.slice A8 n c8,.slice none 0 0]:=by
   rw[hwx]
   exact ((H3.out.calm hc8).setc 3 _ (by simp)).setc 4 _ (by simp)
  have h4:CellsB wc P4 [.int .i64 0,.string ⟨#[]⟩,.string ⟨#[]⟩,.slice none 0 0,.slice none 0 0]:=(H4.out.calm hc8).kp kS (by have:=HE.out.2;omega)
  have HF:Hid (Stays (fun i=>i < w2.heap.size) wc (fun U=>ReadX encEd 12 U A8 p.l)∧Calm w wc):=by
   refine⟨Stays.kp (F:=fun i=>i < w2.heap.size) (w:=w8) (fun U kU=>edits_rows (OwnX.stays rowK_len HO8.out (fun i hi=>hi) U kU)) (kS.mono fun i hi=>.inl (by rw[hi];exact H3.out.lt)),?_⟩
   rw[hwx]
   exact calm_set (calm_set (HC2.out.trans hc8) (by have:=HE.out.1;omega) _ _) (by have:=HE.out.1;omega) _ _
  obtain⟨w9,rfl⟩:∃w9,w9=wc:=⟨_,rfl⟩
  have HP4:Hid (w.heap.size≤P4):=by have:=HE.out;show w.heap.size≤P4;omega
  have H4f:=Lib.hid h4
  have q0:=h3.at_ 0 _ rfl
  have q1:=h3.at_ 1 _ rfl
  have q2:=h3.at_ 2 _ rfl
  have q3:=h3.at_ 3 _ rfl
  have q4:=h3.at_ 4 _ rfl
  have y0:=h4.at_ 0 _ rfl
  have y1:=h4.at_ 1 _ rfl
  have y2:=h4.at_ 2 _ rfl
  have y3:=h4.at_ 3 _ rfl
  have y4:=h4.at_ 4 _ rfl
  have f0:=h4.fz 0
  have f1:=h4.fz 1
  have f2:=h4.fz 2
  have f3:=h4.fz 3
  have f4:=h4.fz 4
  have lq:=h3.lt
  have ly:=h4.lt
  have hne:¬P3=P4:=by have:=HE.out.2;omega
  clear hwx kS h3 h4 hc8 z4 z5 lz
  go_wp2_with fail
  refine bodyPost_ret (v:=.agg #[.int .i64 p.num,.string (bs p.cl),.string (bs p.tx),.slice A8 n c8,.slice none 0 0]) ?_ rfl ⟨⟨A8,c8,rfl,?_⟩,?_⟩
  ·rw[results_cell1 rfl]
   go_simp
  ·exact Stays.kp' (F:=fun i=>i < w2.heap.size) HF.out.1 (Kp.sets (F:=fun i=>i < w2.heap.size) (Kp.refl _ _) (g:=P4) (.inl H4.out.lt) 0 [.int .i64 p.num,.string (bs p.cl),.string (bs p.tx),.slice A8 n c8,.slice none 0 0]) (fun i hi=>.inl (Nat.lt_of_lt_of_le hi HC2.out.size))
  ·exact calm_set5 HF.out.2 HP4.out _ _ _ _ _
set_option maxRecDepth 100000 in
set_option maxHeartbeats 8000000 in
theorem copyPending_c (p:Pnd) (n:Nat) (w:World) (hX:ReadX encEd 12 w p.EA p.l) (hn:p.l.length=n) (hle:n≤64) :
  Calls Tryz.prog 51 #[.agg #[.int .i64 p.num,.string (bs p.cl),.string (bs p.tx),.bool p.sh,.slice p.EA n p.ec,.slice none 0 0]] w fun e w'=>(∃A c,e=.returned (.agg #[.int .i64 p.num,.string (bs p.cl),.string (bs p.tx),.bool p.sh,.slice A n c,.slice none 0 0])∧Stays (fun i=>i < w.heap.size) w' (fun U=>ReadX encEd 12 U A p.l))∧Calm w w':=by
 obtain⟨w2,hw2⟩:∃w2,w2=(w.alloc (.cells #[.int .i64 p.num,.string (bs p.cl),.string (bs p.tx),.bool p.sh,.slice p.EA n p.ec,.slice none 0 0] 58)).alloc (.cells #[.int .i64 0,.string ⟨#[]⟩,.string ⟨#[]⟩,.bool false,.slice none 0 0,.slice none 0 0] 58):=⟨_,rfl⟩
 have hc2:Calm w w2:=by rw[hw2];exact ((Calm.refl _).alloc _).alloc _
 obtain⟨P3,e3⟩:∃P3,w.heap.size=P3:=⟨_,rfl⟩
 obtain⟨P4,e4⟩:∃P4,P3+1=P4:=⟨_,rfl⟩
 have h3:CellsB w2 P3 [.int .i64 p.num,.string (bs p.cl),.string (bs p.tx),.bool p.sh,.slice p.EA n p.ec,.slice none 0 0]:=by
  rw[hw2,←e3]
  exact (CellsB.new w _ _).calm ((Calm.refl _).alloc _)
 have h4:CellsB w2 P4 [.int .i64 0,.string ⟨#[]⟩,.string ⟨#[]⟩,.bool false,.slice none 0 0,.slice none 0 0]:=by
  rw[hw2,←e4,←e3]
  have:=CellsB.new (w.alloc (.cells #[.int .i64 p.num,.string (bs p.cl),.string (bs p.tx),.bool p.sh,.slice p.EA n p.ec,.slice none 0 0] 58)) #[.int .i64 0,.string ⟨#[]⟩,.string ⟨#[]⟩,.bool false,.slice none 0 0,.slice none 0 0] 58
  rwa [World.size_alloc] at this
 have KE:Hid (∀W,Calm w2 W→Calls Tryz.prog 70 #[.slice p.EA n p.ec] W fun e w'=>CloneK 12 32 W (p.l.map Edt.row) n e w'):=fun W hW=>
  cloneEdit_c (p.l.map Edt.row) p.EA n p.ec W (read_row (hX.calm (hc2.trans hW))) (by rw[List.length_map];exact hn) (by omega)
 have HBf:Hid (∀W,Calm w2 W→W.cell? ⟨P3,4,none⟩=some (.slice p.EA n p.ec)∧W.cell? ⟨P3,5,none⟩=some (.slice none 0 0)∧W.frozen? ⟨P3,4,none⟩=false∧W.frozen? ⟨P3,5,none⟩=false∧P3 < W.heap.size):=fun W hW=>by
  have h:=h3.calm hW
  exact⟨h.at_ 4 _ rfl,h.at_ 5 _ rfl,h.fz 4,h.fz 5,h.lt⟩
 have HW:=Lib.hid hw2
 have HE:=Lib.hid (And.intro e3 e4)
 have HC2:=Lib.hid hc2
 have H3:=Lib.hid h3
 have H4:=Lib.hid h4
 obtain⟨z4,z5,_,_,lz⟩:=HBf.out w2 (Calm.refl _)
 clear hX hn hle hw2 hc2 e3 e4 h3 h4
 go_enter Tryz.func51,Tryz.ntmps51
 go_upto_region 1 with (fail)
 rw[←HW.out]
 simp only[HE.out.1,HE.out.2]
 go_cut [] (fun wx=>∃A8 c8 w8,wx=(w8.setCell ⟨P3,4,none⟩ (.slice A8 n c8)).setCell ⟨P3,5,none⟩ (.slice none 0 0)∧Hid (OwnX RowK.vs 12 32 w2.drew w8 (.slice A8 n c8) (p.l.map Edt.row)))
 case first=>
  clear HW HE HC2 H3 H4
  go_region_law (first
   |(refine step_go_f rfl 70 _ _ rfl #[.slice p.EA n p.ec] (by go_simp) (KE.out _ (Below.drew (Calm.refl _))) ?_;rintro e w8 ⟨A8,c8,rfl,hown⟩;refine⟨_,rfl,?_⟩;have hc8:Calm w2 w8:=Calm.trans (Below.drew (Calm.refl w2)) hown.calm;obtain⟨z4,z5,zf4,zf5,lz⟩:=HBf.out w8 hc8;have HO8:=Lib.hid hown;clear hown)
   |(refine step_go_f rfl 47 _ _ rfl #[.slice none 0 0] (by go_simp) (cloneNilRec_c _) ?_;rintro e w9 ⟨rfl,rfl⟩;refine⟨_,rfl,?_⟩))
  all_goals
   go_wp2_with fail
   go_meet
   case rel=>exact⟨A8,c8,w8,rfl,HO8.out⟩
 case rest=>
  obtain⟨A8,c8,w8,hwx,HO8⟩:=hcut
  have hc8:Calm w2 w8:=Calm.trans (Below.drew (Calm.refl w2)) HO8.out.calm
  have kS:Kp (fun i=>i=P3) w8 wc:=by
   rw[hwx]
   exact ((Kp.refl (fun i=>i=P3) w8).set1 (b:=P3) (.inl rfl) 4 _).set1 (b:=P3) (.inl rfl) 5 _
  have h3:CellsB wc P3 [.int .i64 p.num,.string (bs p.cl),.string (bs p.tx),.bool p.sh,.slice A8 n c8,.slice none 0 0]:=by
   rw[hwx]
   exact ((H3.out.calm hc8).setc 4 _ (by simp)).setc 5 _ (by simp)
  have h4:CellsB wc P4 [.int .i64 0,.string ⟨#[]⟩,.string ⟨#[]⟩,.bool false,.slice none 0 0,.slice none 0 0]:=(H4.out.calm hc8).kp kS (by have:=HE.out.2;omega)
  have HF:Hid (Stays (fun i=>i < w2.heap.size) wc (fun U=>ReadX encEd 12 U A8 p.l)∧Calm w wc):=by
   refine⟨Stays.kp (F:=fun i=>i < w2.heap.size) (w:=w8) (fun U kU=>edits_rows (OwnX.stays rowK_len HO8.out (fun i hi=>hi) U kU)) (kS.mono fun i hi=>.inl (by rw[hi];exact H3.out.lt)),?_⟩
   rw[hwx]
   exact calm_set (calm_set (HC2.out.trans hc8) (by have:=HE.out.1;omega) _ _) (by have:=HE.out.1;omega) _ _
  obtain⟨w9,rfl⟩:∃w9,w9=wc:=⟨_,rfl⟩
  have HP4:Hid (w.heap.size≤P4):=by have:=HE.out;show w.heap.size≤P4;omega
  have H4f:=Lib.hid h4
  have q0:=h3.at_ 0 _ rfl
  have q1:=h3.at_ 1 _ rfl
  have q2:=h3.at_ 2 _ rfl
  have q3:=h3.at_ 3 _ rfl
  have q4:=h3.at_ 4 _ rfl
  have q5:=h3.at_ 5 _ rfl
  have y0:=h4.at_ 0 _ rfl
  have y1:=h4.at_ 1 _ rfl
  have y2:=h4.at_ 2 _ rfl
  have y3:=h4.at_ 3 _ rfl
  have y4:=h4.at_ 4 _ rfl
  have y5:=h4.at_ 5 _ rfl
  have f0:=h4.fz 0
  have f1:=h4.fz 1
  have f2:=h4.fz 2
  have f3:=h4.fz 3
  have f4:=h4.fz 4
  have f5:=h4.fz 5
  have lq:=h3.lt
  have ly:=h4.lt
  have hne:¬P3=P4:=by have:=HE.out.2;omega
  clear hwx kS h3 h4 hc8 z4 z5 lz
  go_wp2_with fail
  refine bodyPost_ret (v:=.agg #[.int .i64 p.num,.string (bs p.cl),.string (bs p.tx),.bool p.sh,.slice A8 n c8,.slice none 0 0]) ?_ rfl ⟨⟨A8,c8,rfl,?_⟩,?_⟩
  ·rw[results_cell1 rfl]
   go_simp
  ·exact Stays.kp' (F:=fun i=>i < w2.heap.size) HF.out.1 (Kp.sets (F:=fun i=>i < w2.heap.size) (Kp.refl _ _) (g:=P4) (.inl H4.out.lt) 0 [.int .i64 p.num,.string (bs p.cl),.string (bs p.tx),.bool p.sh,.slice A8 n c8,.slice none 0 0]) (fun i hi=>.inl (Nat.lt_of_lt_of_le hi HC2.out.size))
  ·exact calm_set6 HF.out.2 HP4.out _ _ _ _ _ _
set_option maxRecDepth 100000 in
set_option maxHeartbeats 8000000 in
theorem listPend_c (l:List (Pnd)) (A:Option Addr) (n c:Nat) (w:World) (hX:ReadX encPn 6 w A l) (hn:l.length=n) (hle:n≤1) (hcond:∀x∈l,ReadX encEd 12 w x.EA x.l∧x.l.length≤64) :
  Calls Tryz.prog 50 #[.slice A n c,.func (.func 51) #[] #[]] w fun e w'=>(∃(B:Option Addr) (d:Nat) (ys:List (Pnd)),e=.returned (.slice B n d)∧OwnX encPn 6 58 w w' (.slice B n d) ys∧ys.length=n∧∀(k:Nat) (x y:Pnd),l[k]?=some x→ys[k]?=some y→y={ x with EA:=y.EA,ec:=y.ec }∧Stays (fun i=>i < w.heap.size) w' (fun U=>ReadX encEd 12 U y.EA x.l)):=by
 have eg:∀args W,(callFunc 51 args).run Tryz.prog W=.ok (.enter 51 args) W:=fun args W=>enters_of Tryz.func51 (by kernel_rfl) rfl args W
 have HC:Hid (∀W (j:Nat),Calm w W→j < n→∃b o x,A=some ⟨b,o,none⟩∧b < W.heap.size∧l[j]?=some x∧∀(i:Nat) u,(encPn x)[i]?=some u→W.cell? ⟨b,o+j * 6+i,none⟩=some u):=fun W j hW hj=>by
  obtain⟨b,o,hA,hb,hk⟩:=hX (fun e=>by rw[e] at hn;simp at hn;omega)
  have hz:=List.getElem?_eq_getElem (l:=l) (i:=j) (by omega)
  exact⟨b,o,l[j],hA,Nat.lt_of_lt_of_le hb hW.size,hz,fun i u hu=>Calm.at_ hW (hk j _ hz i u hu) hb⟩
 have HCd:=Lib.hid hcond
 have HN:=Lib.hid hn
 clear hX hn hcond
 go_enter Tryz.func50,Tryz.ntmps50
 go_wp2_with fail
 go_loopw [5,10] (fun v i wr=>∃(j:Nat) (ys:List (Pnd)),j≤n∧i=.int .i64 j∧Hid (ys.length=j∧OwnX encPn 6 58 w wr v ys∧∀(k:Nat) (x y:Pnd),l[k]?=some x→ys[k]?=some y→y={ x with EA:=y.EA,ec:=y.ec }∧Stays (fun i=>i < w.heap.size) wr (fun U=>ReadX encEd 12 U y.EA x.l))) (fun _ i _=>n - (intOf i).toNat)
 case atStart=>exact⟨0,[],Nat.zero_le _,rfl,rfl,OwnX.nil (Calm.refl _),fun k x y _ hy=>by simp at hy⟩
 case round=>
  rename_i v _
  obtain⟨j,ys,hj,rfl,HI⟩:=hrel
  by_cases h0:j < n
  ·obtain⟨b,o,x,rfl,hb,hx,hcell⟩:=HC.out wr j HI.out.2.1.calm h0
   have hcd:=HCd.out x (List.mem_of_getElem? hx)
   have c0:=hcell 0 _ rfl
   have c1:=hcell 1 _ rfl
   have c2:=hcell 2 _ rfl
   have c3:=hcell 3 _ rfl
   have c4:=hcell 4 _ rfl
   have c5:=hcell 5 _ rfl
   rw[Nat.add_zero] at c0
   have HX:=Lib.hid hx
   have HB:=Lib.hid (CellsB.new wr #[.int .i64 x.num,.string (bs x.cl),.string (bs x.tx),.bool x.sh,.slice x.EA x.l.length x.ec,.slice none 0 0] 58)
   have hcall:=copyPending_c x x.l.length (wr.alloc (.cells #[.int .i64 x.num,.string (bs x.cl),.string (bs x.tx),.bool x.sh,.slice x.EA x.l.length x.ec,.slice none 0 0] 58)) ((hcd.1.calm HI.out.2.1.calm).calm ((Calm.refl _).alloc _)) rfl hcd.2
   have hj1:(j:Int) < (n:Int):=by omega
   have hj0:(0:Int)≤(j:Int):=by omega
   clear hcell hx
   go_wp2_with (first
    |(at_builtin;refine wpList_append_xs (enc:=encPn) (K:=6) (T:=58) Tryz.underlying52 infoK_Pending rfl (by decide) (by decide) encPn_len encPn_one rfl (.tmp 14) (.tmp 18) rfl w _ ys [{ x with EA:=EA,ec:=ec }] rfl (HI.out.2.1.to HC5.out) (some ⟨w5.heap.size,0,none⟩) 1 1 rfl rfl (read_one (enc:=encPn) (K:=6) w5 ({ x with EA:=EA,ec:=ec }) _ #[.int .i64 x.num,.string (bs x.cl),.string (bs x.tx),.bool x.sh,.slice EA x.l.length ec,.slice none 0 0] rfl) (by have:=HI.out.1;omega) ?_;intro v6 w6 hown6 hgr6;have HO6:=Lib.hid hown6;have HG6:=Lib.hid hgr6;clear hown6 hgr6)
    |(go_at_fn 51;refine hcall.mono ?_;rintro e w5 ⟨⟨EA,ec,rfl,hst⟩,hc5⟩;have HC5:Hid (Calm wr (w5.alloc (.cells #[.int .i64 x.num,.string (bs x.cl),.string (bs x.tx),.bool x.sh,.slice EA x.l.length ec,.slice none 0 0] 58))):=(Calm.trans ((Calm.refl wr).alloc _) hc5).alloc _;have HSt:=Lib.hid hst;clear hst hc5))
   go_roundw
   case rel=>
    refine⟨j+1,ys++[{ x with EA:=EA,ec:=ec }],by omega,by go_num,by rw[List.length_append,HI.out.1];rfl,HO6.out,fun k x' y hx' hy=>?_⟩
    by_cases e:k=j
    ·subst e
     rw[List.getElem?_append_right (by rw[HI.out.1];exact Nat.le_refl _),HI.out.1,Nat.sub_self] at hy
     obtain rfl:{ x with EA:=EA,ec:=ec }=y:=Option.some.inj hy
     rw[HX.out] at hx'
     obtain rfl:=Option.some.inj hx'
     exact⟨rfl,HSt.out.kp' (((Calm.refl w5).alloc _).kp _ |>.trans (Kp.grown HG6.out (fun i hi=>.inl (Nat.lt_of_lt_of_le (HI.out.2.1.own.lt i hi).2 (by simp))))) (fun i hi=>.inl (Nat.lt_of_lt_of_le hi (Nat.le_trans HI.out.2.1.calm.size (by simp))))⟩
    ·have hk:k < ys.length:=by
      have:=(List.getElem?_eq_some_iff.1 hy).1
      rw[List.length_append] at this
      have h2:=HI.out.1
      simp at this
      omega
     rw[List.getElem?_append_left hk] at hy
     exact absurd hk (by have:=HI.out.1;omega)
   case measure=>simp[intOf];omega
  ·obtain rfl:j=n:=by omega
   go_wp2_with fail
   go_ret
   obtain⟨B,d,hv⟩:=HI.out.2.1.len_shape
   rw[HI.out.1] at hv
   have h2:=HI.out.2
   subst hv
   exact⟨B,d,ys,rfl,h2.1,HI.out.1,h2.2⟩
set_option maxRecDepth 100000 in
set_option maxHeartbeats 8000000 in
theorem listChg_c (l:List (Chg)) (A:Option Addr) (n c:Nat) (w:World) (hX:ReadX encCg 5 w A l) (hn:l.length=n) (hle:n≤1) (hcond:∀x∈l,ReadX encEd 12 w x.EA x.l∧x.l.length≤64) :
  Calls Tryz.prog 48 #[.slice A n c,.func (.func 49) #[] #[]] w fun e w'=>(∃(B:Option Addr) (d:Nat) (ys:List (Chg)),e=.returned (.slice B n d)∧OwnX encCg 5 60 w w' (.slice B n d) ys∧ys.length=n∧∀(k:Nat) (x y:Chg),l[k]?=some x→ys[k]?=some y→y={ x with EA:=y.EA,ec:=y.ec }∧Stays (fun i=>i < w.heap.size) w' (fun U=>ReadX encEd 12 U y.EA x.l)):=by
 have eg:∀args W,(callFunc 49 args).run Tryz.prog W=.ok (.enter 49 args) W:=fun args W=>enters_of Tryz.func49 (by kernel_rfl) rfl args W
 have HC:Hid (∀W (j:Nat),Calm w W→j < n→∃b o x,A=some ⟨b,o,none⟩∧b < W.heap.size∧l[j]?=some x∧∀(i:Nat) u,(encCg x)[i]?=some u→W.cell? ⟨b,o+j * 5+i,none⟩=some u):=fun W j hW hj=>by
  obtain⟨b,o,hA,hb,hk⟩:=hX (fun e=>by rw[e] at hn;simp at hn;omega)
  have hz:=List.getElem?_eq_getElem (l:=l) (i:=j) (by omega)
  exact⟨b,o,l[j],hA,Nat.lt_of_lt_of_le hb hW.size,hz,fun i u hu=>Calm.at_ hW (hk j _ hz i u hu) hb⟩
 have HCd:=Lib.hid hcond
 have HN:=Lib.hid hn
 clear hX hn hcond
 go_enter Tryz.func48,Tryz.ntmps48
 go_wp2_with fail
 go_loopw [5,10] (fun v i wr=>∃(j:Nat) (ys:List (Chg)),j≤n∧i=.int .i64 j∧Hid (ys.length=j∧OwnX encCg 5 60 w wr v ys∧∀(k:Nat) (x y:Chg),l[k]?=some x→ys[k]?=some y→y={ x with EA:=y.EA,ec:=y.ec }∧Stays (fun i=>i < w.heap.size) wr (fun U=>ReadX encEd 12 U y.EA x.l))) (fun _ i _=>n - (intOf i).toNat)
 case atStart=>exact⟨0,[],Nat.zero_le _,rfl,rfl,OwnX.nil (Calm.refl _),fun k x y _ hy=>by simp at hy⟩
 case round=>
  rename_i v _
  obtain⟨j,ys,hj,rfl,HI⟩:=hrel
  by_cases h0:j < n
  ·obtain⟨b,o,x,rfl,hb,hx,hcell⟩:=HC.out wr j HI.out.2.1.calm h0
   have hcd:=HCd.out x (List.mem_of_getElem? hx)
   have c0:=hcell 0 _ rfl
   have c1:=hcell 1 _ rfl
   have c2:=hcell 2 _ rfl
   have c3:=hcell 3 _ rfl
   have c4:=hcell 4 _ rfl
   rw[Nat.add_zero] at c0
   have HX:=Lib.hid hx
   have HB:=Lib.hid (CellsB.new wr #[.int .i64 x.num,.string (bs x.cl),.string (bs x.tx),.slice x.EA x.l.length x.ec,.slice none 0 0] 60)
   have hcall:=copyChange_c x x.l.length (wr.alloc (.cells #[.int .i64 x.num,.string (bs x.cl),.string (bs x.tx),.slice x.EA x.l.length x.ec,.slice none 0 0] 60)) ((hcd.1.calm HI.out.2.1.calm).calm ((Calm.refl _).alloc _)) rfl hcd.2
   have hj1:(j:Int) < (n:Int):=by omega
   have hj0:(0:Int)≤(j:Int):=by omega
   clear hcell hx
   go_wp2_with (first
    |(at_builtin;refine wpList_append_xs (enc:=encCg) (K:=5) (T:=60) Tryz.underlying51 infoK_ChgL rfl (by decide) (by decide) encCg_len encCg_one rfl (.tmp 14) (.tmp 18) rfl w _ ys [{ x with EA:=EA,ec:=ec }] rfl (HI.out.2.1.to HC5.out) (some ⟨w5.heap.size,0,none⟩) 1 1 rfl rfl (read_one (enc:=encCg) (K:=5) w5 ({ x with EA:=EA,ec:=ec }) _ #[.int .i64 x.num,.string (bs x.cl),.string (bs x.tx),.slice EA x.l.length ec,.slice none 0 0] rfl) (by have:=HI.out.1;omega) ?_;intro v6 w6 hown6 hgr6;have HO6:=Lib.hid hown6;have HG6:=Lib.hid hgr6;clear hown6 hgr6)
    |(go_at_fn 49;refine hcall.mono ?_;rintro e w5 ⟨⟨EA,ec,rfl,hst⟩,hc5⟩;have HC5:Hid (Calm wr (w5.alloc (.cells #[.int .i64 x.num,.string (bs x.cl),.string (bs x.tx),.slice EA x.l.length ec,.slice none 0 0] 60))):=(Calm.trans ((Calm.refl wr).alloc _) hc5).alloc _;have HSt:=Lib.hid hst;clear hst hc5))
   go_roundw
   case rel=>
    refine⟨j+1,ys++[{ x with EA:=EA,ec:=ec }],by omega,by go_num,by rw[List.length_append,HI.out.1];rfl,HO6.out,fun k x' y hx' hy=>?_⟩
    by_cases e:k=j
    ·subst e
     rw[List.getElem?_append_right (by rw[HI.out.1];exact Nat.le_refl _),HI.out.1,Nat.sub_self] at hy
     obtain rfl:{ x with EA:=EA,ec:=ec }=y:=Option.some.inj hy
     rw[HX.out] at hx'
     obtain rfl:=Option.some.inj hx'
     exact⟨rfl,HSt.out.kp' (((Calm.refl w5).alloc _).kp _ |>.trans (Kp.grown HG6.out (fun i hi=>.inl (Nat.lt_of_lt_of_le (HI.out.2.1.own.lt i hi).2 (by simp))))) (fun i hi=>.inl (Nat.lt_of_lt_of_le hi (Nat.le_trans HI.out.2.1.calm.size (by simp))))⟩
    ·have hk:k < ys.length:=by
      have:=(List.getElem?_eq_some_iff.1 hy).1
      rw[List.length_append] at this
      have h2:=HI.out.1
      simp at this
      omega
     rw[List.getElem?_append_left hk] at hy
     exact absurd hk (by have:=HI.out.1;omega)
   case measure=>simp[intOf];omega
  ·obtain rfl:j=n:=by omega
   go_wp2_with fail
   go_ret
   obtain⟨B,d,hv⟩:=HI.out.2.1.len_shape
   rw[HI.out.1] at hv
   have h2:=HI.out.2
   subst hv
   exact⟨B,d,ys,rfl,h2.1,HI.out.1,h2.2⟩
set_option maxRecDepth 100000 in
set_option maxHeartbeats 8000000 in
theorem listCl_c (l:List (Str)) (A:Option Addr) (n c:Nat) (w:World) (hX:ReadX encCl 3 w A l) (hn:l.length=n) (hle:n≤16) (hcond:∀x∈l,True) :
  Calls Tryz.prog 44 #[.slice A n c,.func (.func 45) #[] #[]] w fun e w'=>(∃(B:Option Addr) (d:Nat) (ys:List (Str)),e=.returned (.slice B n d)∧OwnX encCl 3 94 w w' (.slice B n d) ys∧ys.length=n∧∀(k:Nat) (x y:Str),l[k]?=some x→ys[k]?=some y→y=x):=by
 have eg:∀args W,(callFunc 45 args).run Tryz.prog W=.ok (.enter 45 args) W:=fun args W=>enters_of Tryz.func45 (by kernel_rfl) rfl args W
 have HC:Hid (∀W (j:Nat),Calm w W→j < n→∃b o x,A=some ⟨b,o,none⟩∧b < W.heap.size∧l[j]?=some x∧∀(i:Nat) u,(encCl x)[i]?=some u→W.cell? ⟨b,o+j * 3+i,none⟩=some u):=fun W j hW hj=>by
  obtain⟨b,o,hA,hb,hk⟩:=hX (fun e=>by rw[e] at hn;simp at hn;omega)
  have hz:=List.getElem?_eq_getElem (l:=l) (i:=j) (by omega)
  exact⟨b,o,l[j],hA,Nat.lt_of_lt_of_le hb hW.size,hz,fun i u hu=>Calm.at_ hW (hk j _ hz i u hu) hb⟩
 have HCd:=Lib.hid hcond
 have HN:=Lib.hid hn
 clear hX hn hcond
 go_enter Tryz.func44,Tryz.ntmps44
 go_wp2_with fail
 go_loopw [5,10] (fun v i wr=>∃(j:Nat) (ys:List (Str)),j≤n∧i=.int .i64 j∧Hid (ys.length=j∧OwnX encCl 3 94 w wr v ys∧∀(k:Nat) (x y:Str),l[k]?=some x→ys[k]?=some y→y=x)) (fun _ i _=>n - (intOf i).toNat)
 case atStart=>exact⟨0,[],Nat.zero_le _,rfl,rfl,OwnX.nil (Calm.refl _),fun k x y _ hy=>by simp at hy⟩
 case round=>
  rename_i v _
  obtain⟨j,ys,hj,rfl,HI⟩:=hrel
  by_cases h0:j < n
  ·obtain⟨b,o,x,rfl,hb,hx,hcell⟩:=HC.out wr j HI.out.2.1.calm h0
   have hcd:=HCd.out x (List.mem_of_getElem? hx)
   have c0:=hcell 0 _ rfl
   have c1:=hcell 1 _ rfl
   have c2:=hcell 2 _ rfl
   rw[Nat.add_zero] at c0
   have HX:=Lib.hid hx
   have HB:=Lib.hid (CellsB.new wr #[.string (bs x),.string (bs mainN),.slice none 0 0] 94)
   have hcall:=copyClient_c x mainN (wr.alloc (.cells #[.string (bs x),.string (bs mainN),.slice none 0 0] 94))
   have hj1:(j:Int) < (n:Int):=by omega
   have hj0:(0:Int)≤(j:Int):=by omega
   clear hcell hx
   go_wp2_with (first
    |(at_builtin;refine wpList_append_xs (enc:=encCl) (K:=3) (T:=94) Tryz.underlying47 infoK_Client rfl (by decide) (by decide) encCl_len encCl_one rfl (.tmp 14) (.tmp 18) rfl w _ ys [x] rfl (HI.out.2.1.to HC5.out) (some ⟨w5.heap.size,0,none⟩) 1 1 rfl rfl (read_one (enc:=encCl) (K:=3) w5 (x) _ #[.string (bs x),.string (bs mainN),.slice none 0 0] rfl) (by have:=HI.out.1;omega) ?_;intro v6 w6 hown6 hgr6;have HO6:=Lib.hid hown6;have HG6:=Lib.hid hgr6;clear hown6 hgr6)
    |(go_at_fn 45;refine hcall.mono ?_;rintro e w5 ⟨rfl,hc5⟩;have HC5:Hid (Calm wr (w5.alloc (.cells #[.string (bs x),.string (bs mainN),.slice none 0 0] 94))):=(Calm.trans ((Calm.refl wr).alloc _) hc5).alloc _;clear hc5))
   go_roundw
   case rel=>
    refine⟨j+1,ys++[x],by omega,by go_num,by rw[List.length_append,HI.out.1];rfl,HO6.out,fun k x' y hx' hy=>?_⟩
    by_cases e:k=j
    ·subst e
     rw[List.getElem?_append_right (by rw[HI.out.1];exact Nat.le_refl _),HI.out.1,Nat.sub_self] at hy
     obtain rfl:x=y:=Option.some.inj hy
     rw[HX.out] at hx'
     obtain rfl:=Option.some.inj hx'
     exact rfl
    ·have hk:k < ys.length:=by
      have:=(List.getElem?_eq_some_iff.1 hy).1
      rw[List.length_append] at this
      have h2:=HI.out.1
      simp at this
      omega
     rw[List.getElem?_append_left hk] at hy
     exact HI.out.2.2 k x' y hx' hy
   case measure=>simp[intOf];omega
  ·obtain rfl:j=n:=by omega
   go_wp2_with fail
   go_ret
   obtain⟨B,d,hv⟩:=HI.out.2.1.len_shape
   rw[HI.out.1] at hv
   have h2:=HI.out.2
   subst hv
   exact⟨B,d,ys,rfl,h2.1,HI.out.1,h2.2⟩
set_option maxRecDepth 100000 in
set_option maxHeartbeats 8000000 in
theorem listStr_c (l:List (RowK 3)) (A:Option Addr) (n c:Nat) (w:World) (hX:ReadX RowK.vs 3 w A l) (hn:l.length=n) (hle:n≤1) (hcond:∀x∈l,∃PA pc,x=mainRow PA pc∧LinesU w PA [allLine]) :
  Calls Tryz.prog 42 #[.slice A n c,.func (.func 43) #[] #[]] w fun e w'=>(∃(B:Option Addr) (d:Nat) (ys:List (RowK 3)),e=.returned (.slice B n d)∧OwnX RowK.vs 3 41 w w' (.slice B n d) ys∧ys.length=n∧∀(k:Nat) (x y:RowK 3),l[k]?=some x→ys[k]?=some y→True):=by
 have eg:∀args W,(callFunc 43 args).run Tryz.prog W=.ok (.enter 43 args) W:=fun args W=>enters_of Tryz.func43 (by kernel_rfl) rfl args W
 have HC:Hid (∀W (j:Nat),Calm w W→j < n→∃b o x,A=some ⟨b,o,none⟩∧b < W.heap.size∧l[j]?=some x∧∀(i:Nat) u,(RowK.vs x)[i]?=some u→W.cell? ⟨b,o+j * 3+i,none⟩=some u):=fun W j hW hj=>by
  obtain⟨b,o,hA,hb,hk⟩:=hX (fun e=>by rw[e] at hn;simp at hn;omega)
  have hz:=List.getElem?_eq_getElem (l:=l) (i:=j) (by omega)
  exact⟨b,o,l[j],hA,Nat.lt_of_lt_of_le hb hW.size,hz,fun i u hu=>Calm.at_ hW (hk j _ hz i u hu) hb⟩
 have HCd:=Lib.hid hcond
 have HN:=Lib.hid hn
 clear hX hn hcond
 go_enter Tryz.func42,Tryz.ntmps42
 go_wp2_with fail
 go_loopw [5,10] (fun v i wr=>∃(j:Nat) (ys:List (RowK 3)),j≤n∧i=.int .i64 j∧Hid (ys.length=j∧OwnX RowK.vs 3 41 w wr v ys∧∀(k:Nat) (x y:RowK 3),l[k]?=some x→ys[k]?=some y→True)) (fun _ i _=>n - (intOf i).toNat)
 case atStart=>exact⟨0,[],Nat.zero_le _,rfl,rfl,OwnX.nil (Calm.refl _),fun k x y _ hy=>by simp at hy⟩
 case round=>
  rename_i v _
  obtain⟨j,ys,hj,rfl,HI⟩:=hrel
  by_cases h0:j < n
  ·obtain⟨b,o,x,rfl,hb,hx,hcell⟩:=HC.out wr j HI.out.2.1.calm h0
   obtain⟨PA,pc,rfl,hll⟩:=HCd.out x (List.mem_of_getElem? hx)
   have c0:=hcell 0 _ rfl
   have c1:=hcell 1 _ rfl
   have c2:=hcell 2 _ rfl
   rw[Nat.add_zero] at c0
   have HX:=Lib.hid hx
   have HB:=Lib.hid (CellsB.new wr #[.string ⟨#[109,97,105,110]⟩,.string ⟨#[]⟩,.slice PA 1 pc] 41)
   have hcall:=copyStream_c mainN [] allLine PA pc (wr.alloc (.cells #[.string ⟨#[109,97,105,110]⟩,.string ⟨#[]⟩,.slice PA 1 pc] 41)) ((hll.calm HI.out.2.1.calm).calm ((Calm.refl _).alloc _))
   have hj1:(j:Int) < (n:Int):=by omega
   have hj0:(0:Int)≤(j:Int):=by omega
   clear hcell hx
   go_wp2_with (first
    |(at_builtin;refine wpList_append_xs (enc:=RowK.vs) (K:=3) (T:=41) Tryz.underlying46 infoK_Stream rfl (by decide) (by decide) rowK_len rowK_one rfl (.tmp 14) (.tmp 18) rfl w _ ys [mainRow EA ec] rfl (HI.out.2.1.to HC5.out) (some ⟨w5.heap.size,0,none⟩) 1 1 rfl rfl (read_one (enc:=RowK.vs) (K:=3) w5 (mainRow EA ec) _ #[.string ⟨#[109,97,105,110]⟩,.string ⟨#[]⟩,.slice EA 1 ec] rfl) (by have:=HI.out.1;omega) ?_;intro v6 w6 hown6 hgr6;have HO6:=Lib.hid hown6;have HG6:=Lib.hid hgr6;clear hown6 hgr6)
    |(go_at_fn 43;refine hcall.mono ?_;rintro e w5 ⟨⟨EA,ec,rfl,_,_,_⟩,hc5⟩;have HC5:Hid (Calm wr (w5.alloc (.cells #[.string ⟨#[109,97,105,110]⟩,.string ⟨#[]⟩,.slice EA 1 ec] 41))):=(Calm.trans ((Calm.refl wr).alloc _) hc5).alloc _;clear hc5))
   go_roundw
   case rel=>
    refine⟨j+1,ys++[mainRow EA ec],by omega,by go_num,by rw[List.length_append,HI.out.1];rfl,HO6.out,fun k x' y hx' hy=>?_⟩
    by_cases e:k=j
    ·subst e
     rw[List.getElem?_append_right (by rw[HI.out.1];exact Nat.le_refl _),HI.out.1,Nat.sub_self] at hy
     obtain rfl:mainRow EA ec=y:=Option.some.inj hy
     rw[HX.out] at hx'
     obtain rfl:=Option.some.inj hx'
     trivial
    ·have hk:k < ys.length:=by
      have:=(List.getElem?_eq_some_iff.1 hy).1
      rw[List.length_append] at this
      have h2:=HI.out.1
      simp at this
      omega
     rw[List.getElem?_append_left hk] at hy
     exact absurd hk (by have:=HI.out.1;omega)
   case measure=>simp[intOf];omega
  ·obtain rfl:j=n:=by omega
   go_wp2_with fail
   go_ret
   obtain⟨B,d,hv⟩:=HI.out.2.1.len_shape
   rw[HI.out.1] at hv
   have h2:=HI.out.2
   subst hv
   exact⟨B,d,ys,rfl,h2.1,HI.out.1,h2.2⟩
theorem main_rows {w:World} {A:Option Addr} (h:StrmsU w A mainS):∃TA tc,ReadX RowK.vs 3 w A [mainRow TA tc]∧LinesU w TA [allLine]:=by
 obtain⟨b,o,hA,hb,hk⟩:=h.at_ (by decide)
 obtain⟨TA,tc,hat,hu⟩:=hk 0 _ rfl
 refine⟨TA,tc,fun _=>⟨b,o,hA,hb,fun k y hy i u hv=>?_⟩,hu.lines⟩
 match k,hy with
 |0,hy=>
  obtain rfl:=Option.some.inj hy
  match i,hv with
  |0,hv=>obtain rfl:=Option.some.inj hv;exact hat.c0
  |1,hv=>obtain rfl:=Option.some.inj hv;exact hat.c1
  |2,hv=>obtain rfl:=Option.some.inj hv;exact hat.c2
def StEnd (w:World) (ck tk:Int) (cn rn hn pn ln:Nat) (hs:List Chg) (ps:List Pnd) (e:Ending) (w':World):Prop:=∃B2 d2 B3 d3 B4 d4 B6 d6 B7 d7 B8 d8,e=.returned (.agg #[.int .i64 ck,.int .i64 tk,.slice B2 1 d2,.slice B3 cn d3,.slice B4 rn d4,.slice none 0 0,.slice B6 hn d6,.slice B7 pn d7,.slice B8 ln d8])∧(∃hs':List Chg,hs'.length=hn∧Stays (fun i=>i < w.heap.size) w' (fun U=>ReadX encCg 5 U B6 hs')∧∀(k:Nat) x y,hs[k]?=some x→hs'[k]?=some y→y={ x with EA:=y.EA,ec:=y.ec }∧Stays (fun i=>i < w.heap.size) w' (fun U=>ReadX encEd 12 U y.EA x.l))∧(∃ps':List Pnd,ps'.length=pn∧Stays (fun i=>i < w.heap.size) w' (fun U=>ReadX encPn 6 U B7 ps')∧∀(k:Nat) x y,ps[k]?=some x→ps'[k]?=some y→y={ x with EA:=y.EA,ec:=y.ec }∧Stays (fun i=>i < w.heap.size) w' (fun U=>ReadX encEd 12 U y.EA x.l))
structure CsI (w w2:World) (P3 P4:Nat) (vs:List Value) (W:World):Prop where
 calm:Calm w W
 le:w2.heap.size≤W.heap.size
 s:CellsB W P3 vs
 r:CellsB W P4 [.int .i64 0,.int .i64 0,.slice none 0 0,.slice none 0 0,.slice none 0 0,.slice none 0 0,.slice none 0 0,.slice none 0 0,.slice none 0 0]
theorem CsI.next {w w2 W W':World} {P3 P4:Nat} {vs:List Value} (h:CsI w w2 P3 P4 vs W) (hc:Calm W W') (h3:w.heap.size≤P3) (hne:P4≠P3) (k:Nat) (v:Value) (hk:k < vs.length):CsI w w2 P3 P4 (vs.set k v) (W'.setCell ⟨P3,k,none⟩ v):=
 ⟨calm_set (h.calm.trans hc) h3 _ _,by show w2.heap.size≤(W'.setCell ⟨P3,k,none⟩ v).heap.size;simp only[World.setCell,Array.size_modify];exact Nat.le_trans h.le hc.size,(h.s.calm hc).setc k v hk,(h.r.calm hc).kp ((Kp.refl (fun i=>i=P3) W').set1 (b:=P3) (.inl rfl) k v) hne⟩
set_option maxRecDepth 100000 in
set_option maxHeartbeats 8000000 in
theorem copyState_c (ck tk:Int) (SA CA RA HA PA LA:Option Addr) (sc cc rc hc pc lc cn rn hn pn ln:Nat) (cs:List Str) (rs:List (RowK 12)) (hs:List Chg) (ps:List Pnd) (ls:List (RowK 5)) (w:World)
  (hst:StrmsU w SA mainS) (hcl:ReadX encCl 3 w CA cs∧cs.length=cn∧cn≤16) (hrv:ReadX RowK.vs 12 w RA rs∧rs.length=rn∧rn≤100000)
  (hch:ReadX encCg 5 w HA hs∧hs.length=hn∧hn≤1∧∀y∈hs,ReadX encEd 12 w y.EA y.l∧y.l.length≤64) (hpn:ReadX encPn 6 w PA ps∧ps.length=pn∧pn≤1∧∀y∈ps,ReadX encEd 12 w y.EA y.l∧y.l.length≤64) (hls:ReadX RowK.vs 5 w LA ls∧ls.length=ln∧ln≤100000) :
  Calls Tryz.prog 17 #[.agg #[.int .i64 ck,.int .i64 tk,.slice SA 1 sc,.slice CA cn cc,.slice RA rn rc,.slice none 0 0,.slice HA hn hc,.slice PA pn pc,.slice LA ln lc]] w fun e w'=>StEnd w ck tk cn rn hn pn ln hs ps e w'∧Calm w w':=by
 obtain⟨TA,tc,hst1,hst2⟩:=main_rows hst
 obtain⟨w2,hw2⟩:∃w2,w2=(w.alloc (.cells #[.int .i64 ck,.int .i64 tk,.slice SA 1 sc,.slice CA cn cc,.slice RA rn rc,.slice none 0 0,.slice HA hn hc,.slice PA pn pc,.slice LA ln lc] 55)).alloc (.cells #[.int .i64 0,.int .i64 0,.slice none 0 0,.slice none 0 0,.slice none 0 0,.slice none 0 0,.slice none 0 0,.slice none 0 0,.slice none 0 0] 55):=⟨_,rfl⟩
 have hc2:Calm w w2:=by rw[hw2];exact ((Calm.refl _).alloc _).alloc _
 obtain⟨P3,e3⟩:∃P3,w.heap.size=P3:=⟨_,rfl⟩
 obtain⟨P4,e4⟩:∃P4,P3+1=P4:=⟨_,rfl⟩
 have h3:CellsB w2 P3 [.int .i64 ck,.int .i64 tk,.slice SA 1 sc,.slice CA cn cc,.slice RA rn rc,.slice none 0 0,.slice HA hn hc,.slice PA pn pc,.slice LA ln lc]:=by
  rw[hw2,←e3]
  exact (CellsB.new w _ _).calm ((Calm.refl _).alloc _)
 have h4:CellsB w2 P4 [.int .i64 0,.int .i64 0,.slice none 0 0,.slice none 0 0,.slice none 0 0,.slice none 0 0,.slice none 0 0,.slice none 0 0,.slice none 0 0]:=by
  rw[hw2,←e4,←e3]
  have:=CellsB.new (w.alloc (.cells #[.int .i64 ck,.int .i64 tk,.slice SA 1 sc,.slice CA cn cc,.slice RA rn rc,.slice none 0 0,.slice HA hn hc,.slice PA pn pc,.slice LA ln lc] 55)) #[.int .i64 0,.int .i64 0,.slice none 0 0,.slice none 0 0,.slice none 0 0,.slice none 0 0,.slice none 0 0,.slice none 0 0,.slice none 0 0] 55
  rwa [World.size_alloc] at this
 have HStr:=Lib.hid (And.intro hst1 hst2)
 have HCl:=Lib.hid hcl
 have HRv:=Lib.hid hrv
 have HCh:=Lib.hid hch
 have HPn:=Lib.hid hpn
 have HLs:=Lib.hid hls
 have HW:=Lib.hid hw2
 have HE:=Lib.hid (And.intro e3 e4)
 have HNe:Hid (w.heap.size≤P3∧P4≠P3∧P3 < w2.heap.size∧P4 < w2.heap.size):=⟨by omega,by omega,h3.lt,h4.lt⟩
 have H0:Hid (CsI w w2 P3 P4 [.int .i64 ck,.int .i64 tk,.slice SA 1 sc,.slice CA cn cc,.slice RA rn rc,.slice none 0 0,.slice HA hn hc,.slice PA pn pc,.slice LA ln lc] w2):=⟨hc2,Nat.le_refl _,h3,h4⟩
 clear hst hst1 hst2 hcl hrv hch hpn hls hw2 hc2 h3 h4 e3 e4
 go_enter Tryz.func17,Tryz.ntmps17
 go_upto_region 1 with (fail)
 rw[←HW.out]
 simp only[HE.out.1,HE.out.2]
 have q2:=H0.out.s.at_ 2 _ rfl
 have z2:=H0.out.s.fz 2
 have l2:=H0.out.s.lt
 have K1:=(fun (W:World) (hW:Calm w W)=>listStr_c [mainRow TA tc] SA 1 sc W (HStr.out.1.calm hW) rfl (by decide) (fun y hy=>⟨TA,tc,List.mem_singleton.1 hy,HStr.out.2.calm hW⟩)) w2 H0.out.calm
 go_wp2_with fail
 refine K1.mono ?_
 rintro e v1 ⟨B2,d2,ys2,rfl,hown,_,_⟩
 have q2':=(H0.out.s.calm (hown.calm)).at_ 2 _ rfl
 have z2':=(H0.out.s.calm (hown.calm)).fz 2
 have l2':=(H0.out.s.calm (hown.calm)).lt
 have HO1:=Lib.hid (And.intro hown H0.out.le)
 have H1':=Lib.hid (H0.out.next (hown.calm) HNe.out.1 HNe.out.2.1 2 (.slice B2 1 d2) (by simp))
 clear K1 q2 z2 l2 hown
 go_upto_region 2 with (fail)
 obtain⟨w3,hw⟩:∃w3,w3=v1.setCell ⟨P3,2,none⟩ (.slice B2 1 d2):=⟨_,rfl⟩
 have HK1:Hid (Kp (fun i=>i < w2.heap.size) v1 w3):=by
  show Kp _ _ _
  rw[hw]
  exact (Kp.refl _ _).set1 (b:=P3) (.inl HNe.out.2.2.1) 2 _
 rw[←hw] at H1' ⊢
 have H1:Hid (CsI w w2 P3 P4 [.int .i64 ck,.int .i64 tk,.slice B2 1 d2,.slice CA cn cc,.slice RA rn rc,.slice none 0 0,.slice HA hn hc,.slice PA pn pc,.slice LA ln lc] w3):=H1'.out
 clear hw H1' q2' z2' l2'
 have q3:=H1.out.s.at_ 3 _ rfl
 have z3:=H1.out.s.fz 3
 have l3:=H1.out.s.lt
 have K2:=(fun (W:World) (hW:Calm w W)=>listCl_c cs CA cn cc W (HCl.out.1.calm hW) HCl.out.2.1 HCl.out.2.2 (fun _ _=>trivial)) w3 H1.out.calm
 go_wp2_with fail
 refine K2.mono ?_
 rintro e v2 ⟨B3,d3,ys3,rfl,hown,_,_⟩
 have q3':=(H1.out.s.calm (hown.calm)).at_ 3 _ rfl
 have z3':=(H1.out.s.calm (hown.calm)).fz 3
 have l3':=(H1.out.s.calm (hown.calm)).lt
 have HO2:=Lib.hid (And.intro hown H1.out.le)
 have H2':=Lib.hid (H1.out.next (hown.calm) HNe.out.1 HNe.out.2.1 3 (.slice B3 cn d3) (by simp))
 clear K2 q3 z3 l3 hown
 go_upto_region 3 with (fail)
 obtain⟨w4,hw⟩:∃w4,w4=v2.setCell ⟨P3,3,none⟩ (.slice B3 cn d3):=⟨_,rfl⟩
 have HK2:Hid (Kp (fun i=>i < w2.heap.size) v2 w4):=by
  show Kp _ _ _
  rw[hw]
  exact (Kp.refl _ _).set1 (b:=P3) (.inl HNe.out.2.2.1) 3 _
 rw[←hw] at H2' ⊢
 have H2:Hid (CsI w w2 P3 P4 [.int .i64 ck,.int .i64 tk,.slice B2 1 d2,.slice B3 cn d3,.slice RA rn rc,.slice none 0 0,.slice HA hn hc,.slice PA pn pc,.slice LA ln lc] w4):=H2'.out
 clear hw H2' q3' z3' l3'
 have q4:=H2.out.s.at_ 4 _ rfl
 have z4:=H2.out.s.fz 4
 have l4:=H2.out.s.lt
 have K3:=(fun (W:World) (hW:Calm w W)=>cloneRevision_c rs RA rn rc W (HRv.out.1.calm hW) HRv.out.2.1 HRv.out.2.2) w4 H2.out.calm
 go_wp2_with fail
 refine K3.mono ?_
 rintro e v3 ⟨B4,d4,rfl,hown⟩
 have q4':=(H2.out.s.calm (hown.calm)).at_ 4 _ rfl
 have z4':=(H2.out.s.calm (hown.calm)).fz 4
 have l4':=(H2.out.s.calm (hown.calm)).lt
 have HO3:=Lib.hid (And.intro hown H2.out.le)
 have H3':=Lib.hid (H2.out.next (hown.calm) HNe.out.1 HNe.out.2.1 4 (.slice B4 rn d4) (by simp))
 clear K3 q4 z4 l4 hown
 go_upto_region 4 with (fail)
 obtain⟨w5,hw⟩:∃w5,w5=v3.setCell ⟨P3,4,none⟩ (.slice B4 rn d4):=⟨_,rfl⟩
 have HK3:Hid (Kp (fun i=>i < w2.heap.size) v3 w5):=by
  show Kp _ _ _
  rw[hw]
  exact (Kp.refl _ _).set1 (b:=P3) (.inl HNe.out.2.2.1) 4 _
 rw[←hw] at H3' ⊢
 have H3:Hid (CsI w w2 P3 P4 [.int .i64 ck,.int .i64 tk,.slice B2 1 d2,.slice B3 cn d3,.slice B4 rn d4,.slice none 0 0,.slice HA hn hc,.slice PA pn pc,.slice LA ln lc] w5):=H3'.out
 clear hw H3' q4' z4' l4'
 have q5:=H3.out.s.at_ 5 _ rfl
 have z5:=H3.out.s.fz 5
 have l5:=H3.out.s.lt
 have K4:=(fun (W:World) (hW:Calm w W)=>cloneNilRec_c W) w5 H3.out.calm
 go_wp2_with fail
 refine K4.mono ?_
 rintro e v4 ⟨rfl,rfl⟩
 have q5':=(H3.out.s.calm (Calm.refl _)).at_ 5 _ rfl
 have z5':=(H3.out.s.calm (Calm.refl _)).fz 5
 have l5':=(H3.out.s.calm (Calm.refl _)).lt
 have H4':=Lib.hid (H3.out.next (Calm.refl _) HNe.out.1 HNe.out.2.1 5 (.slice none 0 0) (by simp))
 clear K4 q5 z5 l5
 go_upto_region 5 with (fail)
 obtain⟨w6,hw⟩:∃w6,w6=w5.setCell ⟨P3,5,none⟩ (.slice none 0 0):=⟨_,rfl⟩
 have HK4:Hid (Kp (fun i=>i < w2.heap.size) w5 w6):=by
  show Kp _ _ _
  rw[hw]
  exact (Kp.refl _ _).set1 (b:=P3) (.inl HNe.out.2.2.1) 5 _
 rw[←hw] at H4' ⊢
 have H4:Hid (CsI w w2 P3 P4 [.int .i64 ck,.int .i64 tk,.slice B2 1 d2,.slice B3 cn d3,.slice B4 rn d4,.slice none 0 0,.slice HA hn hc,.slice PA pn pc,.slice LA ln lc] w6):=H4'.out
 clear hw H4' q5' z5' l5'
 have q6:=H4.out.s.at_ 6 _ rfl
 have z6:=H4.out.s.fz 6
 have l6:=H4.out.s.lt
 have K5:=(fun (W:World) (hW:Calm w W)=>listChg_c hs HA hn hc W (HCh.out.1.calm hW) HCh.out.2.1 HCh.out.2.2.1 (fun y hy=>⟨(HCh.out.2.2.2 y hy).1.calm hW,(HCh.out.2.2.2 y hy).2⟩)) w6 H4.out.calm
 go_wp2_with fail
 refine K5.mono ?_
 rintro e v5 ⟨B6,d6,hs6,rfl,hown,hlen6,hrel6⟩
 have q6':=(H4.out.s.calm (hown.calm)).at_ 6 _ rfl
 have z6':=(H4.out.s.calm (hown.calm)).fz 6
 have l6':=(H4.out.s.calm (hown.calm)).lt
 have HO5:=Lib.hid (And.intro hown H4.out.le)
 have HR6:=Lib.hid (And.intro hlen6 hrel6)
 clear hlen6 hrel6
 have H5':=Lib.hid (H4.out.next (hown.calm) HNe.out.1 HNe.out.2.1 6 (.slice B6 hn d6) (by simp))
 clear K5 q6 z6 l6 hown
 go_upto_region 6 with (fail)
 obtain⟨w7,hw⟩:∃w7,w7=v5.setCell ⟨P3,6,none⟩ (.slice B6 hn d6):=⟨_,rfl⟩
 have HK5:Hid (Kp (fun i=>i < w2.heap.size) v5 w7):=by
  show Kp _ _ _
  rw[hw]
  exact (Kp.refl _ _).set1 (b:=P3) (.inl HNe.out.2.2.1) 6 _
 rw[←hw] at H5' ⊢
 have H5:Hid (CsI w w2 P3 P4 [.int .i64 ck,.int .i64 tk,.slice B2 1 d2,.slice B3 cn d3,.slice B4 rn d4,.slice none 0 0,.slice B6 hn d6,.slice PA pn pc,.slice LA ln lc] w7):=H5'.out
 clear hw H5' q6' z6' l6'
 have q7:=H5.out.s.at_ 7 _ rfl
 have z7:=H5.out.s.fz 7
 have l7:=H5.out.s.lt
 have K6:=(fun (W:World) (hW:Calm w W)=>listPend_c ps PA pn pc W (HPn.out.1.calm hW) HPn.out.2.1 HPn.out.2.2.1 (fun y hy=>⟨(HPn.out.2.2.2 y hy).1.calm hW,(HPn.out.2.2.2 y hy).2⟩)) w7 H5.out.calm
 go_wp2_with fail
 refine K6.mono ?_
 rintro e v6 ⟨B7,d7,ps7,rfl,hown,hlen7,hrel7⟩
 have q7':=(H5.out.s.calm (hown.calm)).at_ 7 _ rfl
 have z7':=(H5.out.s.calm (hown.calm)).fz 7
 have l7':=(H5.out.s.calm (hown.calm)).lt
 have HO6:=Lib.hid (And.intro hown H5.out.le)
 have HR7:=Lib.hid (And.intro hlen7 hrel7)
 clear hlen7 hrel7
 have H6':=Lib.hid (H5.out.next (hown.calm) HNe.out.1 HNe.out.2.1 7 (.slice B7 pn d7) (by simp))
 clear K6 q7 z7 l7 hown
 go_upto_region 7 with (fail)
 obtain⟨w8,hw⟩:∃w8,w8=v6.setCell ⟨P3,7,none⟩ (.slice B7 pn d7):=⟨_,rfl⟩
 have HK6:Hid (Kp (fun i=>i < w2.heap.size) v6 w8):=by
  show Kp _ _ _
  rw[hw]
  exact (Kp.refl _ _).set1 (b:=P3) (.inl HNe.out.2.2.1) 7 _
 rw[←hw] at H6' ⊢
 have H6:Hid (CsI w w2 P3 P4 [.int .i64 ck,.int .i64 tk,.slice B2 1 d2,.slice B3 cn d3,.slice B4 rn d4,.slice none 0 0,.slice B6 hn d6,.slice B7 pn d7,.slice LA ln lc] w8):=H6'.out
 clear hw H6' q7' z7' l7'
 have q8:=H6.out.s.at_ 8 _ rfl
 have z8:=H6.out.s.fz 8
 have l8:=H6.out.s.lt
 have K7:=(fun (W:World) (hW:Calm w W)=>cloneLease_c ls LA ln lc W (HLs.out.1.calm hW) HLs.out.2.1 HLs.out.2.2) w8 H6.out.calm
 go_wp2_with fail
 refine K7.mono ?_
 rintro e v7 ⟨B8,d8,rfl,hown⟩
 have q8':=(H6.out.s.calm (hown.calm)).at_ 8 _ rfl
 have z8':=(H6.out.s.calm (hown.calm)).fz 8
 have l8':=(H6.out.s.calm (hown.calm)).lt
 have HO7:=Lib.hid (And.intro hown H6.out.le)
 have H7':=Lib.hid (H6.out.next (hown.calm) HNe.out.1 HNe.out.2.1 8 (.slice B8 ln d8) (by simp))
 clear K7 q8 z8 l8 hown
 go_upto_region 8 with (fail)
 obtain⟨w9,hw⟩:∃w9,w9=v7.setCell ⟨P3,8,none⟩ (.slice B8 ln d8):=⟨_,rfl⟩
 have HK7:Hid (Kp (fun i=>i < w2.heap.size) v7 w9):=by
  show Kp _ _ _
  rw[hw]
  exact (Kp.refl _ _).set1 (b:=P3) (.inl HNe.out.2.2.1) 8 _
 rw[←hw] at H7' ⊢
 have H7:Hid (CsI w w2 P3 P4 [.int .i64 ck,.int .i64 tk,.slice B2 1 d2,.slice B3 cn d3,.slice B4 rn d4,.slice none 0 0,.slice B6 hn d6,.slice B7 pn d7,.slice B8 ln d8] w9):=H7'.out
 clear hw H7' q8' z8' l8'
 have q0:=H7.out.s.at_ 0 _ rfl
 have y0:=H7.out.r.at_ 0 _ rfl
 have f0:=H7.out.r.fz 0
 have q1:=H7.out.s.at_ 1 _ rfl
 have y1:=H7.out.r.at_ 1 _ rfl
 have f1:=H7.out.r.fz 1
 have q2:=H7.out.s.at_ 2 _ rfl
 have y2:=H7.out.r.at_ 2 _ rfl
 have f2:=H7.out.r.fz 2
 have q3:=H7.out.s.at_ 3 _ rfl
 have y3:=H7.out.r.at_ 3 _ rfl
 have f3:=H7.out.r.fz 3
 have q4:=H7.out.s.at_ 4 _ rfl
 have y4:=H7.out.r.at_ 4 _ rfl
 have f4:=H7.out.r.fz 4
 have q5:=H7.out.s.at_ 5 _ rfl
 have y5:=H7.out.r.at_ 5 _ rfl
 have f5:=H7.out.r.fz 5
 have q6:=H7.out.s.at_ 6 _ rfl
 have y6:=H7.out.r.at_ 6 _ rfl
 have f6:=H7.out.r.fz 6
 have q7:=H7.out.s.at_ 7 _ rfl
 have y7:=H7.out.r.at_ 7 _ rfl
 have f7:=H7.out.r.fz 7
 have q8:=H7.out.s.at_ 8 _ rfl
 have y8:=H7.out.r.at_ 8 _ rfl
 have f8:=H7.out.r.fz 8
 have l3:=H7.out.s.lt
 have l4:=H7.out.r.lt
 have hne:¬P3=P4:=fun e=>HNe.out.2.1 e.symm
 go_wp2_with fail
 refine bodyPost_ret (v:=.agg #[.int .i64 ck,.int .i64 tk,.slice B2 1 d2,.slice B3 cn d3,.slice B4 rn d4,.slice none 0 0,.slice B6 hn d6,.slice B7 pn d7,.slice B8 ln d8]) ?_ rfl ⟨⟨B2,d2,B3,d3,B4,d4,B6,d6,B7,d7,B8,d8,rfl,?_,?_⟩,?_⟩
 ·rw[results_cell1 rfl]
  go_simp
 ·have kf:Kp (fun i=>i < w2.heap.size) v5 (w9.setCells P4 0 [.int .i64 ck,.int .i64 tk,.slice B2 1 d2,.slice B3 cn d3,.slice B4 rn d4,.slice none 0 0,.slice B6 hn d6,.slice B7 pn d7,.slice B8 ln d8]):=(((HK5.out.trans (HO6.out.1.calm.kp _)).trans HK6.out).trans ((HO7.out.1.calm.kp _).trans HK7.out)).trans (Kp.sets (Kp.refl _ _) (g:=P4) (.inl HNe.out.2.2.2) 0 _)
  refine⟨hs6,HR6.out.1,(fun U kU=>OwnX.stays encCg_len HO5.out.1 (fun i hi=>Nat.lt_of_lt_of_le hi HO5.out.2) _ (kf.trans (kU.mono fun i hi=>.inl (by have h:=HNe.out;show i < w2.heap.size;have h2:i < w.heap.size:=hi;omega)))),fun k x y hx hy=>?_⟩
  obtain⟨h1,h2⟩:=HR6.out.2 k x y hx hy
  exact⟨h1,Stays.kp' (F:=fun i=>i < w2.heap.size) (h2.kp' (Kp.refl _ _) (fun i hi=>.inl (Nat.lt_of_lt_of_le hi HO5.out.2))) kf (fun i hi=>.inl (by have h:=HNe.out;show i < w2.heap.size;have h2:i < w.heap.size:=hi;omega))⟩
 ·have kf:Kp (fun i=>i < w2.heap.size) v6 (w9.setCells P4 0 [.int .i64 ck,.int .i64 tk,.slice B2 1 d2,.slice B3 cn d3,.slice B4 rn d4,.slice none 0 0,.slice B6 hn d6,.slice B7 pn d7,.slice B8 ln d8]):=(HK6.out.trans ((HO7.out.1.calm.kp _).trans HK7.out)).trans (Kp.sets (Kp.refl _ _) (g:=P4) (.inl HNe.out.2.2.2) 0 _)
  refine⟨ps7,HR7.out.1,(fun U kU=>OwnX.stays encPn_len HO6.out.1 (fun i hi=>Nat.lt_of_lt_of_le hi HO6.out.2) _ (kf.trans (kU.mono fun i hi=>.inl (by have h:=HNe.out;show i < w2.heap.size;have h2:i < w.heap.size:=hi;omega)))),fun k x y hx hy=>?_⟩
  obtain⟨h1,h2⟩:=HR7.out.2 k x y hx hy
  exact⟨h1,Stays.kp' (F:=fun i=>i < w2.heap.size) (h2.kp' (Kp.refl _ _) (fun i hi=>.inl (Nat.lt_of_lt_of_le hi HO6.out.2))) kf (fun i hi=>.inl (by have h:=HNe.out;show i < w2.heap.size;have h2:i < w.heap.size:=hi;omega))⟩
 ·exact calm_set9 H7.out.calm (Nat.le_trans HNe.out.1 (by have:=HE.out.2;omega)) _ _ _ _ _ _ _ _ _
end Go.Proofs.YtcofdlipapnohaaGreatDoor
