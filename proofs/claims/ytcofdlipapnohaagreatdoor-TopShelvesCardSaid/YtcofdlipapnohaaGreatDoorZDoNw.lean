/- Walk: a new pending. -/
import Derived.Test.YtcofdlipapnohaaGreatDoorZSrvN
import Derived.Test.YtcofdlipapnohaaGreatDoorZEdRow
import Derived.Test.YtcofdlipapnohaaGreatDoorZCpSs
import Derived.Test.YtcofdlipapnohaaGreatDoorZRed3W
import Derived.Test.YtcofdlipapnohaaGreatDoorZHisC
set_option linter.unusedVariables false
set_option linter.unusedSimpArgs false
namespace Go.Proofs.YtcofdlipapnohaaGreatDoor
open Go Go.RowKit Sy
abbrev rep0:Value:=.agg #[.int .i64 0,.int .i64 0,.int .i64 0]
set_option maxRecDepth 100000 in
set_option maxHeartbeats 8000000 in
theorem shelve_c (x:Srv) (p:Pnd) (c:Cmd) (w:World) (h:SrvAt w x) (hp:x.ps=[p]) (hn:p.num=c.num) (hsh:p.sh=false) (hl:p.l≠[]) :
  Calls Tryz.prog 26 #[.pointer (some ⟨x.S,0,none⟩),cmV c] w fun e w'=>e=.returned (.tuple #[rep0,.int .i64 0])∧Went w x w' { x with ps:=[{ p with sh:=true }] }:=by
 obtain⟨g,hg,hpc⟩:=h.pnAt hp
 have K:=Lib.hid fun (W:World) (hW:Calm w W)=>own_c x p c g W (h.calm hW) hp hg hn
 have HG:Hid (∀W,Calm w W→W.cell? ⟨g,3,none⟩=some (.bool false)∧W.cell? ⟨g,4,none⟩=some (.slice p.EA p.l.length p.ec)∧W.frozen? ⟨g,3,none⟩=false∧g < W.heap.size):=fun W hW=>by
  have h1:=(h.calm hW).pns hp
  have h2:=(h.calm hW).pn
  obtain⟨b,o,hA,hb,hk⟩:=h1 (by simp)
  rw[hg] at hA h2
  cases hA
  have h3:=hk 0 p rfl 3 _ rfl
  have h4:=hk 0 p rfl 4 _ rfl
  rw[hsh] at h3
  refine⟨h3,h4,?_,hb⟩
  rcases h2.2 with⟨h5,_⟩ | ⟨g',cap,cur,hv,_,hgg,_⟩
  ·cases h5
  ·cases hv
   exact frozen_of_row _ _ _ _ _ hgg
 have HB:=Lib.hid (CmBox.new w c)
 have hO:=(CmBox.new w c).off h
 have HO:=Lib.hid hO
 have HSv:=Lib.hid h
 have hlp:0 < p.l.length:=List.length_pos_iff.2 hl
 have hlz:((p.l.length:Int) == 0)=false:=by rw[beq_eq_false_iff_ne];omega
 have hne:g≠w.heap.size+1:=fun e=>hO.2 (.inr (.inr (.inr (.inr (by rw[hg,←e];rfl)))))
 have HP:=Lib.hid hp
 have HPg:=Lib.hid hg
 have HNe:=Lib.hid hne
 clear h hp hn hsh hl hg hpc hO hne
 go_enter Tryz.func26,Tryz.ntmps26
 go_wp2_with fail
 refine (K.out (cmBox w c) HB.out.calm).mono ?_
 rintro e w5 ⟨rfl,hc5⟩
 have hb5:=HB.out.to hc5
 obtain⟨g3,g4,gf,gl⟩:=HG.out w5 hb5.calm
 have HB5:=Lib.hid hb5
 have r0:=hb5.r.at_ 0 _ rfl
 have r1:=hb5.r.at_ 1 _ rfl
 have r2:=hb5.r.at_ 2 _ rfl
 have f0:=hb5.r.fz 0
 have f1:=hb5.r.fz 1
 have f2:=hb5.r.fz 2
 have lr:=hb5.r.lt
 clear hc5 hb5
 go_wp2_with fail
 refine bodyPost_ret (v:=.tuple #[rep0,.int .i64 0]) ?_ rfl ⟨rfl,?_⟩
 ·rw[results_cell_slot rfl]
  go_simp
 ·have h0:=HSv.out
  have h5:=h0.calm HB5.out.calm
  have hw:=(Went.same h0 HB5.out.calm).trans (h5.putPn HP.out HPg.out 3 (.bool true) { p with sh:=true } rfl (.inl ⟨rfl,rfl⟩))
  exact Went.box' h0 hw (b:=w.heap.size+1) (by omega) HO.out.2 (Kp.set3 (F:=fun i=>i=w.heap.size+1) (Kp.refl _ _) (.inl rfl) _ _ _) ⟨rfl,rfl,rfl,rfl,rfl,rfl⟩ (fun q hq=>by
   rw[List.mem_singleton.1 hq]
   exact⟨p,by rw[HP.out];exact List.mem_singleton.2 rfl,rfl,rfl⟩)
set_option maxRecDepth 100000 in
set_option maxHeartbeats 8000000 in
theorem hand_c (x:Srv) (p:Pnd) (c:Cmd) (w:World) (h:SrvAt w x) (hp:x.ps=[p]) (hn:p.num=c.num) (hsh:p.sh=true) (h2:x.cs.length≤2) (hcl:(bsC x.cs c.nm).2=true) :
  Calls Tryz.prog 28 #[.pointer (some ⟨x.S,0,none⟩),cmV c] w fun e w'=>e=.returned (.tuple #[rep0,.int .i64 0])∧Went w x w' { x with ps:=[{ p with cl:=c.nm }] }:=by
 obtain⟨g,hg,hpc⟩:=h.pnAt hp
 have K:=Lib.hid fun (W:World) (hW:Calm w W)=>own_c x p c g W (h.calm hW) hp hg hn
 have KC:Hid (∀W,Calm w W→Calls Tryz.prog 15 #[.pointer (some ⟨x.S,0,none⟩),.string (bs c.nm)] W fun e w'=>e=.returned (.tuple #[.int .i64 (bsC x.cs c.nm).1,.bool true])∧Calm W w'):=fun W hW=>by
  have:=client_c x c.nm W (h.calm hW) h2
  rw[hcl] at this
  exact this
 have HG:Hid (∀W,Calm w W→W.cell? ⟨g,3,none⟩=some (.bool true)∧W.cell? ⟨g,1,none⟩=some (.string (bs p.cl))∧W.frozen? ⟨g,1,none⟩=false∧g < W.heap.size):=fun W hW=>by
  have h1:=(h.calm hW).pns hp
  have h2:=(h.calm hW).pn
  obtain⟨b,o,hA,hb,hk⟩:=h1 (by simp)
  rw[hg] at hA h2
  cases hA
  have h3:=hk 0 p rfl 3 _ rfl
  have h4:=hk 0 p rfl 1 _ rfl
  rw[hsh] at h3
  refine⟨h3,h4,?_,hb⟩
  rcases h2.2 with⟨h5,_⟩ | ⟨g',cap,cur,hv,_,hgg,_⟩
  ·cases h5
  ·cases hv
   exact frozen_of_row _ _ _ _ _ hgg
 have HB:=Lib.hid (CmBox.new w c)
 have hO:=(CmBox.new w c).off h
 have HO:=Lib.hid hO
 have HSv:=Lib.hid h
 have hne:g≠w.heap.size+1:=fun e=>hO.2 (.inr (.inr (.inr (.inr (by rw[hg,←e];rfl)))))
 have HP:=Lib.hid hp
 have HPg:=Lib.hid hg
 obtain⟨ci,hci⟩:∃ci,(bsC x.cs c.nm).1=ci:=⟨_,rfl⟩
 rw[hci] at KC
 clear h hp hn hsh hg hpc hO h2 hcl hci
 go_enter Tryz.func28,Tryz.ntmps28
 go_wp2_with fail
 refine (K.out (cmBox w c) HB.out.calm).mono ?_
 rintro e w5 ⟨rfl,hc5⟩
 have hb5:=HB.out.to hc5
 obtain⟨g3,_,_,gl⟩:=HG.out w5 hb5.calm
 have HB5:=Lib.hid hb5
 have t2:=hb5.c.at_ 2 _ rfl
 have lt:=hb5.c.lt
 clear hc5 hb5
 go_wp2_with fail
 refine (KC.out w5 HB5.out.calm).mono ?_
 rintro e w6 ⟨rfl,hc6⟩
 have hb6:=HB5.out.to hc6
 have HB6:=Lib.hid hb6
 obtain⟨_,g1,gf,gl⟩:=HG.out w6 hb6.calm
 have t2:=hb6.c.at_ 2 _ rfl
 have lt:=hb6.c.lt
 have r0:=hb6.r.at_ 0 _ rfl
 have r1:=hb6.r.at_ 1 _ rfl
 have r2:=hb6.r.at_ 2 _ rfl
 have f0:=hb6.r.fz 0
 have f1:=hb6.r.fz 1
 have f2:=hb6.r.fz 2
 have lr:=hb6.r.lt
 clear hc6 hb6 g3
 go_wp2_with fail
 refine bodyPost_ret (v:=.tuple #[rep0,.int .i64 0]) ?_ rfl ⟨rfl,?_⟩
 ·rw[results_cell_slot rfl]
  go_simp
 ·have h0:=HSv.out
  have h5:=h0.calm HB6.out.calm
  have hw:=(Went.same h0 HB6.out.calm).trans (h5.putPn HP.out HPg.out 1 (.string (bs c.nm)) { p with cl:=c.nm } rfl (.inl ⟨rfl,rfl⟩))
  exact Went.box' h0 hw (b:=w.heap.size+1) (by omega) HO.out.2 (Kp.set3 (F:=fun i=>i=w.heap.size+1) (Kp.refl _ _) (.inl rfl) _ _ _) ⟨rfl,rfl,rfl,rfl,rfl,rfl⟩ (fun q hq=>by
   rw[List.mem_singleton.1 hq]
   exact⟨p,by rw[HP.out];exact List.mem_singleton.2 rfl,rfl,rfl⟩)
def Fresh (w:World) (v v':Value):Prop:=v'.ownBlock=v.ownBlock∨∃g,v'.ownBlock=some g∧w.heap.size≤g
section
variable {α:Type} {enc:α→List Value} {K:Nat} {T:TypeId}
theorem append_fresh {P:Program} {w w0 w':World} {S ty:TypeId} {i0:TypeInfo} {z:Value} {bytes:Nat} (ht:P.underlying S=some (.slice T)) (hi:P.info? T=some i0) (hz:i0.zero=some z) (hsize:i0.size=K) (hby:i0.bytes=bytes) (hzs:z.cells.size=K) (hK:0 < K)
  (hlen:∀x,(enc x).length=K) (h1:∀x,∀u∈enc x,u.oneCell'=true) {v v':Value} {l m:List α} {A:Option Addr} {n c:Nat} (hown:OwnX enc K T w0 w v l) (hm:m.length=n)
  (hrd:ReadX enc K w A m) (hl:l.length+n≤2000000) (hb:bytes≤1000) (hr:(Builtin.append_ #[S,S] ty #[v,.slice A n c]).run P w=.ok v' w'):Fresh w v v':=by
 cases A with
 |none=>
  have h0:m=[]:=Classical.byContradiction fun hne=>by
   obtain⟨b,o,hA,_⟩:=hrd hne
   cases hA
  subst h0
  obtain rfl:0=n:=by simpa using hm
  rcases hown.own.2 with⟨rfl,h1⟩ | ⟨g,cap,cur,rfl,_,_,hnc,_⟩
  ·simp[Builtin.append_,run_underlying ht,sizeOf,typeInfo,hi,Builtin.lenOf,Builtin.firstCells] at hr
   exact .inl (by rw[←hr.1])
  ·simp[Builtin.append_,run_underlying ht,sizeOf,typeInfo,hi,Builtin.lenOf,Builtin.firstCells,hnc,storeCells] at hr
   exact .inl (by rw[←hr.1])
 |some ad=>
  have hnews:∀(j:Nat) (u:Value),(encs enc m)[j]?=some u→w.cell? (ad.add j)=some u:=fun j u hj=>by
   obtain⟨k,x,i,h2,rfl,h3⟩:=encs_cells hlen m j u hj
   obtain⟨b,o,hA,_,hk⟩:=hrd (fun e=>by rw[e] at h2;simp at h2)
   obtain rfl:=Option.some.inj hA
   simpa[Addr.add_lit,Nat.add_assoc] using hk k x h2 i u h3
  have h2:∀u∈encs enc m,u.oneCell'=true:=fun u hu=>by
   obtain⟨x,_,hx⟩:=List.mem_flatMap.1 hu
   exact h1 x u hx
  have hnl:(encs enc m).length=n * i0.size:=by rw[hsize,encs_len hlen,hm]
  subst hsize
  subst hby
  rcases hown.own.2 with⟨rfl,h0⟩ | ⟨g,cap,cur,rfl,hbg,hg,hnc,hcm,hcs,htake⟩
  ·rw[h0] at hl
   by_cases hn:n=0
   ·subst hn
    have he:encs enc m=[]:=List.eq_nil_of_length_eq_zero (by simpa using hnl)
    simp[Builtin.append_,run_underlying ht,sizeOf,typeInfo,hi,Builtin.lenOf,Builtin.firstCells,loadCells,loadCellsFrom] at hr
    exact .inl (by rw[←hr.1])
   ·have h48:n * i0.bytes≤281474976710656:=Nat.le_trans (Nat.mul_le_mul (show n≤2000000 by omega) hb) (by decide)
    rw[run_append_nil (P:=P) w S ty T i0 z ht hi hz ad n c (encs enc m) hnl hnews (by omega) (by omega) h48] at hr
    simp only[Result.ok.injEq] at hr
    obtain⟨rfl,_⟩:=hr
    exact .inr ⟨_,rfl,Nat.le_refl _⟩
  ·by_cases hroom:l.length+n≤cap
   ·have hfit:l.length * i0.size+(encs enc m).length≤cur.size:=by rw[hnl,hcs,←Nat.add_mul];exact Nat.mul_le_mul_right _ hroom
    rw[run_append_room (P:=P) w S ty T i0 ht hi g l.length cap cur hg ad n c (encs enc m) hnl hnews h2 hroom hfit] at hr
    simp only[Result.ok.injEq] at hr
    obtain⟨rfl,_⟩:=hr
    exact .inl rfl
   ·have holds:∀j u,(encs enc l)[j]?=some u→w.cell? ((⟨g,0,none⟩:Addr).add j)=some u:=hown.own.cells (g:=g) rfl
    rw[run_append_grow (P:=P) w S ty T i0 z ht hi hz ⟨g,0,none⟩ l.length cap (encs enc l) hown.own.1 holds ad n c (encs enc m) hnl hnews (by omega) (by omega) (growslice_fits (by omega) (Nat.le_trans (Nat.mul_le_mul (show l.length+n≤2000000 by omega) hb) (by decide)))] at hr
    simp only[Result.ok.injEq] at hr
    obtain⟨rfl,_⟩:=hr
    exact .inr ⟨_,rfl,Nat.le_refl _⟩
theorem step_append_xf {S:TypeId} {z:Value} {bytes:Nat} (ht:Tryz.prog.underlying S=some (.slice T)) (hi:(Tryz.prog.info? T).map (fun i=>(i.zero,i.size,i.bytes))=some (some z,K,bytes)) (hzs:z.cells.size=K) (hK0:0 < K) (hb:bytes≤1000)
  (hlen:∀x,(enc x).length=K) (h1:∀x,∀u∈enc x,u.oneCell'=true)
  {ops:Array Oper} {o:Oper} {a:Act} {w:World} {R:Act→World→Prop} {Q:Exit→Act→World→Prop} {E:Prop}
  (hg:o.guard=none) (s x:Operand) (hop:o.op=Op.call { callee:=Callee.builtin Builtin.append,args:=#[s,x],argTypes:=#[S,S] })
  (w0:World) (v:Value) (l m:List α) (hs:a.eval s=v) (hown:OwnX enc K T w0 w v l) (A:Option Addr) (n c:Nat) (hx:a.eval x=.slice A n c) (hm:m.length=n)
  (hrd:ReadX enc K w A m) (hl:l.length+n≤2000000)
  (hK:∀v' w',OwnX enc K T w0 w' v' (l++m)→w.grownBy w' v.ownBlock→Fresh w v v'→R (a.put o.dst v') w') :
  if Region.wanted o (yielded ops a.tmps)=true then Oper.wp Tryz.prog o a w R Q else E:=by
 have hw:Region.wanted o (yielded ops a.tmps)=true:=by simp[Region.wanted,hg]
 rw[if_pos hw]
 obtain⟨i0,hi0,hz0,hz1,hz2⟩:=info_parts hi
 obtain⟨v',w',hr,h2,h3⟩:=run_append_xs (P:=Tryz.prog) (ty:=o.type) (c:=c) ht hi0 hz0 hz1 hz2 hzs hK0 hlen h1 hown hm hrd hl hb
 have hf:=append_fresh (P:=Tryz.prog) (ty:=o.type) (c:=c) ht hi0 hz0 hz1 hz2 hzs hK0 hlen h1 hown hm hrd hl hb hr
 unfold Oper.wp
 simp[execOp,hop,resolve,invoke,builtin,hs,hx,Result.andThen]
 rw[hr]
 exact hK v' w' h2 h3 hf
end
theorem infoK_Pending:(Tryz.prog.info? 58).map (fun i=>(i.zero,i.size,i.bytes))=some (some (.agg #[.int .i64 0,.string ⟨#[]⟩,.string ⟨#[]⟩,.bool false,.slice none 0 0,.slice none 0 0]),6,96):=by kernel_rfl
theorem kind_sized {T:TypeId} {g b N:Nat}:∀(vs:List Value) (o:Nat) (w:World),(∃cs,w.heap[g]?=some (.cells cs T (0,0))∧cs.size=N)→∃cs,(w.setCells b o vs).heap[g]?=some (.cells cs T (0,0))∧cs.size=N
 |[],_,_,h=>h
 |v :: r,o,w,h=>by
  refine kind_sized r (o+1) _ ?_
  obtain⟨cs,hh,hN⟩:=h
  by_cases e:b=g
  ·subst e
   exact⟨cs.setIfInBounds o v,by simp[World.setCell,Array.getElem?_modify,hh],by simpa using hN⟩
  ·exact⟨cs,by rw[Deep.blk_setCell_other _ _ _ _ (Ne.symm e)];exact hh,hN⟩
theorem zero_pnd (w:World):(zeroValue 58).run Tryz.prog w=.ok (.agg #[.int .i64 0,.string ⟨#[]⟩,.string ⟨#[]⟩,.bool false,.slice none 0 0,.slice none 0 0]) w:=by kernel_rfl
set_option maxRecDepth 100000 in
set_option maxHeartbeats 8000000 in
theorem delete_c (p:Pnd) (g pc:Nat) (w:World) (h:w.ownsRow 0 58 6 (.slice (some ⟨g,0,none⟩) 1 pc) 1 (encPn p)) (hpc:1≤pc) (hm:pc≤9223372036854775807) :
  Calls Tryz.prog 102 #[.slice (some ⟨g,0,none⟩) 1 pc,.int .i64 0,.int .i64 1] w fun e w'=>e=.returned (.slice (some ⟨g,0,none⟩) 0 pc)∧w'.ownsRow 0 58 6 (.slice (some ⟨g,0,none⟩) 0 pc) 0 []∧Kp (fun i=>i=g) w w':=by
 obtain⟨i0,hi0,hz0,hz1,hz2⟩:=info_parts infoK_Pending
 obtain⟨cur,hgg,hcs⟩:∃cur,w.heap[g]?=some (.cells cur 58 (0,0))∧cur.size=pc * 6:=by
  rcases h.2 with⟨h2,_⟩ | ⟨g',cap,cur,hv,_,hgg,_,_,hs,_⟩
  ·cases h2
  ·cases hv
   exact⟨cur,hgg,hs⟩
 have hsm:∀i,i < 6→∃u,w.cell? ⟨g,i,none⟩=some u:=fun i hi=>by
  rw[cell_of_row _ g i cur _ _ hgg]
  exact⟨cur[i],Array.getElem?_eq_getElem (by omega)⟩
 obtain⟨zs,hzs⟩:∃zs,zs=(Builtin.zeroCells (Value.cells (.agg #[.int .i64 0,.string ⟨#[]⟩,.string ⟨#[]⟩,.bool false,.slice none 0 0,.slice none 0 0])) 1).toList:=⟨_,rfl⟩
 have hclr:∀c ty,(Builtin.clear_ #[52] ty #[.slice (some ⟨g,0,none⟩) 1 c]).run Tryz.prog (w.drew.setCells g 0 [])=.ok (.tuple #[]) (w.drew.setCells g 0 zs):=fun c ty=>by
  rw[hzs]
  refine (run_clear_x w.drew 52 58 ty _ 6 Tryz.underlying52 zero_pnd rfl (by decide) (by decide) g 0 1 c (by decide) (fun j hj=>?_) (fun j hj=>?_)).1
  ·obtain⟨u,hu⟩:=hsm j (by omega)
   rw[Nat.zero_add]
   show (w.cell? _).isSome=true
   rw[hu]
   rfl
  ·rw[Nat.zero_add]
   exact frozen_of_row w g j cur _ hgg
 have hEnd:Hid ((w.drew.setCells g 0 zs).ownsRow 0 58 6 (.slice (some ⟨g,0,none⟩) 0 pc) 0 []∧Kp (fun i=>i=g) w (w.drew.setCells g 0 zs)):=by
  refine⟨⟨rfl,.inr ?_⟩,Kp.sets (F:=fun i=>i=g) (Kp.drew (Kp.refl _ w)) (g:=g) (.inl rfl) 0 zs⟩
  obtain⟨cs,hk,hN⟩:=kind_sized (b:=g) zs 0 w.drew ⟨cur,hgg,hcs⟩
  exact⟨g,pc,cs,rfl,Nat.zero_le _,hk,Nat.zero_le _,by unfold maxLen;omega,hN,by simp⟩
 have lg:g < w.heap.size:=heap_lt hgg
 clear h hsm hgg hcs hzs
 by_cases h1:pc=1
 ·subst h1
  go_enter Tryz.func102,Tryz.ntmps102
  go_wp2_with fail
  go_region_law (refine step_append_room rfl (.tmp 22) (.tmp 25) 52 rfl 58 i0 6 Tryz.underlying52 hi0 hz1 g 0 0 1 (by simp[Act.eval,Act.put]) _ 0 _ [] (by simp[Act.eval,Act.put];exact⟨rfl,rfl⟩) rfl (fun j u hj=>by simp at hj) (by simp) (by decide) (fun j hj=>by simp at hj) ?_)
  all_goals
   go_wp2_with fail
   go_ret
   exact⟨rfl,hEnd.out.1,hEnd.out.2⟩
 ·go_enter Tryz.func102,Tryz.ntmps102
  have h1':(1:Int)≤(pc:Int):=by omega
  go_wp2_with fail
  go_region_law (refine step_append_room rfl (.tmp 22) (.tmp 25) 52 rfl 58 i0 6 Tryz.underlying52 hi0 hz1 g 0 0 pc (by simp[Act.eval,Act.put]) _ 0 _ [] (by simp[Act.eval,Act.put];exact⟨rfl,rfl⟩) rfl (fun j u hj=>by simp at hj) (by simp) (by omega) (fun j hj=>by simp at hj) ?_)
  all_goals
   go_wp2_with fail
   go_ret
   exact⟨rfl,hEnd.out.1,hEnd.out.2⟩
theorem SrvAt.delPn {w w1:World} {x:Srv} (h:SrvAt w x) {p:Pnd} (hp:x.ps=[p]) {g:Nat} (hg:x.PA=some ⟨g,0,none⟩) (hk:Kp (fun i=>i=g) w w1) (hown:w1.ownsRow 0 58 6 (.slice x.PA 0 x.pc) 0 []) :
  Went w x (w1.setCell ⟨x.S,7,none⟩ (.slice x.PA 0 x.pc)) { x with ps:=[] }:=by
 have hgb:blk x.PA=some g:=by rw[hg];rfl
 have hgo:=h.fp g hgb
 have kS:Kp (fun i=>i=x.S) w1 (w1.setCell ⟨x.S,7,none⟩ (.slice x.PA 0 x.pc)):=kp_set w1 _ _ _ rfl
 have k1:Kp x.F w w1:=hk.mono fun i hi=>.inl (.inr (.inr (.inr (.inr (hi ▸ hgb)))))
 have hz:=(h.z.kp hk (fun e=>hgo.1 e.symm)).setc 7 (.slice x.PA 0 x.pc) (by simp[Srv.vs])
 refine Went.make h (k1.trans (kS.mono fun i hi=>.inl (.inl hi))) _ (fun i hi=>.inl hi) hz ((h.t.kp hk (fun e=>hgo.2.1 e.symm)).kp kS (fun e=>h.ne.1 e.symm)) ((h.m.kp hk (fun e=>hgo.2.2 e.symm)).kp kS (fun e=>h.ne.2.1 e.symm)) h.ne
  (ownsRow_kp (ownsRow_kp h.cl hk (fun b hb e=>?_)) kS (fun b hb e=>?_)) (ownsRow_kp hown kS (fun b hb e=>?_)) h.fc h.fp (.inl ⟨rfl,rfl⟩) (.inl ⟨rfl,rfl⟩) (.inl ⟨rfl,rfl⟩) (fun q hq=>by cases hq)
 ·rw[own_blk] at hb
  exact (h.fc b hb).2.2.2 (by rw[e];exact hgb)
 ·rw[own_blk] at hb
  exact (h.fc b hb).1 e
 ·rw[own_blk] at hb
  exact (h.fp b hb).1 e
set_option maxRecDepth 100000 in
set_option maxHeartbeats 8000000 in
theorem drop_c (x:Srv) (p:Pnd) (t:Int) (w:World) (h:SrvAt w x) (hp:x.ps=[p]) (hn:p.num=t) :
  Calls Tryz.prog 71 #[.pointer (some ⟨x.S,0,none⟩),.int .i64 t] w fun e w'=>e=.returned (.tuple #[])∧Went w x w' { x with ps:=[] }:=by
 obtain⟨g,hg,hpc,hpm⟩:=h.pnAt hp
 have hi:pendI p t=0:=by unfold pendI;rw[if_pos hn]
 have hi2:(p.num == t)=true:=by simpa using hn
 have K:Hid (∀W,Calm w W→Calls Tryz.prog 16 #[.pointer (some ⟨x.S,0,none⟩),.int .i64 t] W fun e w'=>e=.returned (.tuple #[.int .i64 0,.bool true])∧Calm W w'):=fun W hW=>by
  have:=pending_c x p t W (h.calm hW) hp
  rw[hi,hi2] at this
  exact this
 have KD:Hid (∀W,Calm w W→Calls Tryz.prog 102 #[.slice (some ⟨g,0,none⟩) 1 x.pc,.int .i64 0,.int .i64 1] W fun e w'=>e=.returned (.slice (some ⟨g,0,none⟩) 0 x.pc)∧w'.ownsRow 0 58 6 (.slice (some ⟨g,0,none⟩) 0 x.pc) 0 []∧Kp (fun i=>i=g) W w'):=fun W hW=>by
  have h2:=(h.calm hW).pn
  rw[hp,hg] at h2
  simp only[encs,List.flatMap_cons,List.flatMap_nil,List.append_nil] at h2
  exact delete_c p g x.pc W h2 hpc hpm
 have HSl:Hid (∀W,Calm w W→W.cell? ⟨x.S,7,none⟩=some (.slice (some ⟨g,0,none⟩) 1 x.pc)∧x.S < W.heap.size):=fun W hW=>by
  have h1:=(h.calm hW).z.at_ 7 _ rfl
  rw[hp,hg] at h1
  exact⟨h1,(h.calm hW).z.lt⟩
 have HSf:Hid (∀W W',Calm w W→Kp (fun i=>i=g) W W'→W'.cell? ⟨x.S,7,none⟩=some (.slice (some ⟨g,0,none⟩) 1 x.pc)∧x.S < W'.heap.size∧W'.frozen? ⟨x.S,7,none⟩=false):=fun W W' hW hk=>by
  have hne:¬x.S=g:=fun e=>(h.fp g (by rw[hg];rfl)).1 e.symm
  have h1:=(h.calm hW).z.kp hk hne
  have h2:=h1.at_ 7 _ rfl
  rw[hp,hg] at h2
  exact⟨h2,h1.lt,h1.fz 7⟩
 have HSv:=Lib.hid h
 have HP:=Lib.hid hp
 have HPg:=Lib.hid hg
 clear h hp hn hg hpm hi hi2
 go_enter Tryz.func71,Tryz.ntmps71
 go_wp2_with fail
 refine (K.out w (Calm.refl _)).mono ?_
 rintro e w2 ⟨rfl,hc2⟩
 have HC2:=Lib.hid hc2
 obtain⟨s7,lS⟩:=HSl.out w2 hc2
 clear hc2
 go_wp2_with fail
 refine (KD.out w2 HC2.out).mono ?_
 rintro e w3 ⟨rfl,hown3,hk3⟩
 obtain⟨s7',lS',sf⟩:=HSf.out w2 w3 HC2.out hk3
 have HO3:=Lib.hid hown3
 have HK3:=Lib.hid hk3
 clear s7 lS hown3 hk3
 go_wp2_with fail
 refine bodyPost_end (v:=.tuple #[]) (results_none rfl _ _ _) rfl ⟨rfl,?_⟩
 have h0:=HSv.out
 have h2:=h0.calm HC2.out
 have:=h2.delPn HP.out HPg.out HK3.out (by rw[HPg.out];exact HO3.out)
 rw[←HPg.out]
 exact (Went.same h0 HC2.out).trans this
set_option maxRecDepth 100000 in
set_option maxHeartbeats 8000000 in
theorem doDrop_c (x:Srv) (p:Pnd) (c:Cmd) (w:World) (h:SrvAt w x) (hp:x.ps=[p]) (hn:p.num=c.num) :
  Calls Tryz.prog 29 #[.pointer (some ⟨x.S,0,none⟩),cmV c] w fun e w'=>e=.returned (.tuple #[rep0,.int .i64 0])∧Went w x w' { x with ps:=[] }:=by
 have K:=Lib.hid fun (W:World) (hW:Calm w W)=>drop_c x p c.num W (h.calm hW) hp hn
 have HB:=Lib.hid (CmBox.new w c)
 have hO:=(CmBox.new w c).off h
 have HO:=Lib.hid hO
 have HSv:=Lib.hid h
 clear h hp hn hO
 go_enter Tryz.func29,Tryz.ntmps29
 go_wp2_with fail
 refine (K.out (cmBox w c) HB.out.calm).mono ?_
 rintro e w5 ⟨rfl,hw5⟩
 have hb5:=HB.out.kp hw5.kp HO.out.1 HO.out.2
 have HW5:Hid (Went w x w5 { x with ps:=[] }):=(Went.same HSv.out HB.out.calm).trans hw5
 have r0:=hb5.2.at_ 0 _ rfl
 have r1:=hb5.2.at_ 1 _ rfl
 have r2:=hb5.2.at_ 2 _ rfl
 have f0:=hb5.2.fz 0
 have f1:=hb5.2.fz 1
 have f2:=hb5.2.fz 2
 have lr:=hb5.2.lt
 clear hb5 hw5
 go_wp2_with fail
 refine bodyPost_ret (v:=.tuple #[rep0,.int .i64 0]) ?_ rfl ⟨rfl,?_⟩
 ·rw[results_cell_slot rfl]
  go_simp
 ·exact Went.box' HSv.out HW5.out (b:=w.heap.size+1) (by omega) HO.out.2 (Kp.set3 (F:=fun i=>i=w.heap.size+1) (Kp.refl _ _) (.inl rfl) _ _ _) ⟨rfl,rfl,rfl,rfl,rfl,rfl⟩ (fun q hq=>(by cases hq))
def bare (w:World):World:={ w with heap:=#[] }
theorem bare_calm (w:World):Calm (bare w) w:=⟨rfl,rfl,rfl,Nat.zero_le _,fun k hk=>by simp[bare] at hk⟩
theorem read_one {α:Type} {enc:α→List Value} {K:Nat} (w:World) (y:α) (T:TypeId) (vs:Array Value) (hv:vs.toList=enc y):ReadX enc K (w.alloc (.cells vs T)) (some ⟨w.heap.size,0,none⟩) [y]:=fun _=>by
 refine⟨_,0,rfl,by simp,fun k x hk i u hu=>?_⟩
 match k,hk with
 |0,hk=>
  obtain rfl:=Option.some.inj hk
  simp only[Nat.zero_mul,Nat.zero_add]
  rw[cell_of_row _ w.heap.size i _ _ _ (heap_alloc_new w _)]
  rw[←hv] at hu
  simpa using hu
def newPn (x:Srv) (c:Cmd):Pnd:=⟨x.tk+1,c.cl,c.tx,false,none,0,[]⟩
set_option maxRecDepth 100000 in
set_option maxHeartbeats 8000000 in
theorem doNew_c (x:Srv) (c:Cmd) (w:World) (h:SrvAt w x) (hp:x.ps=[]) (htk:0≤x.tk∧x.tk≤1000) (htx:c.tx.length≤1024) :
  Calls Tryz.prog 24 #[.pointer (some ⟨x.S,0,none⟩),cmV c] w fun e w'=>e=.returned (.tuple #[.agg #[.int .i64 (x.tk+1),.int .i64 0,.int .i64 0],.int .i64 0])∧∃A pc,Went w x w' { x with tk:=x.tk+1,PA:=A,pc:=pc,ps:=[newPn x c] }:=by
 obtain⟨t,ht⟩:∃t,x.tk=t:=⟨_,rfl⟩
 rw[ht] at htk
 have hb0:=CmBox.new w c
 have hO:=hb0.off h
 have h2:=h.calm hb0.calm
 have hW5:=h2.putTk (t+1)
 have s1:=h2.z.at_ 1 _ rfl
 have s7:=h2.z.at_ 7 _ rfl
 rw[hp] at s7
 simp only[List.length_nil,ht] at s1 s7
 have sf1:=h2.z.fz 1
 have lS:=h2.z.lt
 have b1:=hb0.c.at_ 1 _ rfl
 have b7:=hb0.c.at_ 7 _ rfl
 have l3:=hb0.c.lt
 have HB:=Lib.hid hb0
 have HO:=Lib.hid hO
 have HSv:=Lib.hid h
 have HW5:=Lib.hid hW5
 have HP:=Lib.hid hp
 have HT:=Lib.hid ht
 obtain⟨w2,hw2⟩:∃w2,cmBox w c=w2:=⟨_,rfl⟩
 obtain⟨S,hS⟩:∃S,x.S=S:=⟨_,rfl⟩
 obtain⟨PA,hPA⟩:∃PA,x.PA=PA:=⟨_,rfl⟩
 obtain⟨pc,hpc⟩:∃pc,x.pc=pc:=⟨_,rfl⟩
 rw[hw2] at HB HW5 s1 s7 sf1 lS b1 b7 l3
 rw[hS] at s1 s7 sf1 lS ⊢
 rw[hPA,hpc] at s7
 have HS:=Lib.hid (And.intro hS (And.intro hPA hpc))
 have HW2:=Lib.hid hw2
 have hto:¬1073741824≤t:=by omega
 clear h hp hO hb0 h2 hW5 hw2 hS hPA hpc
 have e3:=HB.out.p3
 go_enter Tryz.func24,Tryz.ntmps24
 rw[ht]
 clear ht
 go_wp2_with fail
 refine (sdesc_c c.tx _).mono ?_
 rintro e w5 ⟨rfl,rfl⟩
 rw[show decide ((c.tx.length:Int)≤1024)=true from by simp;omega]
 have hwx:(w.alloc (.cells #[.int .i64 c.kind,.string (bs c.cl),.string (bs c.nm),.string (bs c.pa),.int .i64 c.num,.int .i64 c.fence,.int .i64 c.ticks,.string (bs c.tx),.string (bs c.sn),.string (bs c.sp),.slice c.SA c.sl c.sc,.slice none 0 0,.slice c.EA c.en c.ec,.slice none 0 0] 45)).alloc (.cells #[.int .i64 0,.int .i64 0,.int .i64 0] 35)=w2:=HW2.out
 rw[hwx]
 clear hwx
 go_upto_region 6 with (fail)
 obtain⟨w5,hw5⟩:∃w5,w5=w2.setCell ⟨S,1,none⟩ (.int .i64 (t+1)):=⟨_,rfl⟩
 rw[←hw5]
 obtain⟨hS,hPA,hpc⟩:=HS.out
 have hwt:Went w2 x w5 { x with tk:=t+1 }:=by
  rw[hw5,←hS]
  exact HW5.out
 have hb5:=HB.out.kp hwt.kp HO.out.1 HO.out.2
 have a1:=hwt.at_.z.at_ 1 _ rfl
 have a7:=hwt.at_.z.at_ 7 _ rfl
 have aS:=hwt.at_.z.lt
 simp only[HP.out,List.length_nil,hS,hPA,hpc] at a1 a7 aS
 have d1:=hb5.1.at_ 1 _ rfl
 have d7:=hb5.1.at_ 7 _ rfl
 have d3:=hb5.1.lt
 have HOA:Hid (∀W,Calm w5 W→OwnX encPn 6 58 (bare w5) W (.slice PA 0 pc) []):=fun W hW=>by
  have h1:=(hwt.at_.calm hW).pn
  simp only[HP.out,List.length_nil,hPA,hpc] at h1
  exact⟨(bare_calm w5).trans hW,h1⟩
 have HSf:Hid (∀W U,Calm w5 W→W.grownBy U (blk PA)→U.cell? ⟨S,7,none⟩=some (.slice PA 0 pc)∧U.frozen? ⟨S,7,none⟩=false∧S < U.heap.size):=fun W U hW hg=>by
  have h1:=(hwt.at_.calm hW).z.grown hg (fun e=>by
   have:=(hwt.at_.fp x.S (by show blk x.PA=some x.S;rw[hPA,←e])).1
   exact this rfl)
  have h7:=h1.at_ 7 _ rfl
  simp only[HP.out,List.length_nil,hS,hPA,hpc] at h7 h1
  exact⟨h7,h1.fz 7,h1.lt⟩
 have HW5':=Lib.hid hwt
 have HW5e:=Lib.hid hw5
 have HB5:=Lib.hid hb5
 clear hwt hw5 hS hPA hpc hb5 s1 s7 sf1 lS b1 b7 l3 e3
 have ARM:∀{ops:Array Oper} {o:Oper} {a:Act} {R:Act→World→Prop} {Q:Exit→Act→World→Prop} {E:Prop},o.guard=none→o.op=Op.call { callee:=Callee.builtin Builtin.append,args:=#[.tmp 36,.tmp 46],argTypes:=#[52,52] }→a.eval (.tmp 36)=.slice PA 0 pc→a.eval (.tmp 46)=.slice (some ⟨w5.heap.size,0,none⟩) 1 1 →
   (∀A13 c13 w13,(w13.cell? ⟨S,7,none⟩=some (.slice PA 0 pc)∧w13.frozen? ⟨S,7,none⟩=false∧S < w13.heap.size)→Hid (w13.ownsRow 0 58 6 (.slice A13 1 c13) 1 (encPn ⟨t+1,c.cl,c.tx,false,none,0,[]⟩)∧(w5.alloc (.cells #[.int .i64 (t+1),.string (bs c.cl),.string (bs c.tx),.bool false,.slice none 0 0,.slice none 0 0] 58)).drew.grownBy w13 (blk PA)∧(blk A13=blk PA∨∃i,blk A13=some i∧(w5.alloc (.cells #[.int .i64 (t+1),.string (bs c.cl),.string (bs c.tx),.bool false,.slice none 0 0,.slice none 0 0] 58)).drew.heap.size≤i))→R (a.put o.dst (.slice A13 1 c13)) w13) →
   if Region.wanted o (yielded ops a.tmps)=true then Oper.wp Tryz.prog o a (w5.alloc (.cells #[.int .i64 (t+1),.string (bs c.cl),.string (bs c.tx),.bool false,.slice none 0 0,.slice none 0 0] 58)).drew R Q else E:=by
  intro ops o a R Q E hg hop h36 h46 hK
  refine step_append_xf (enc:=encPn) (K:=6) (T:=58) Tryz.underlying52 infoK_Pending rfl (by decide) (by decide) encPn_len encPn_one hg (.tmp 36) (.tmp 46) hop (bare w5) (.slice PA 0 pc) [] [⟨t+1,c.cl,c.tx,false,none,0,[]⟩] h36 (HOA.out _ (Below.drew (Calm.alloc (Calm.refl _) _))) (some ⟨w5.heap.size,0,none⟩) 1 1 h46 rfl ((read_one (enc:=encPn) (K:=6) w5 _ _ #[.int .i64 (t+1),.string (bs c.cl),.string (bs c.tx),.bool false,.slice none 0 0,.slice none 0 0] rfl).calm (Below.drew (Calm.refl _))) (by simp) ?_
  intro v13 w13 hown13 hg13 hfr13
  obtain⟨A13,c13,hv13⟩:=hown13.len_shape
  subst hv13
  rw[own_blk] at hg13
  refine hK A13 c13 w13 (HSf.out _ _ (Below.drew (Calm.alloc (Calm.refl _) _)) hg13) ⟨?_,hg13,?_⟩
  ·have:=hown13.own
   rw[show encs encPn ([]++[⟨t+1,c.cl,c.tx,false,none,0,[]⟩])=encPn ⟨t+1,c.cl,c.tx,false,none,0,[]⟩ by simp[encs]] at this
   exact this
  ·rcases hfr13 with h1 | ⟨i,h1,h2⟩
   ·rw[own_blk,own_blk] at h1
    exact .inl h1
   ·rw[own_blk] at h1
    exact .inr ⟨i,h1,h2⟩
 go_cut [47] (fun s wx=>∃A13 c13 w13,s=.slice A13 1 c13∧wx=w13.setCell ⟨S,7,none⟩ (.slice A13 1 c13)∧Hid (w13.ownsRow 0 58 6 (.slice A13 1 c13) 1 (encPn ⟨t+1,c.cl,c.tx,false,none,0,[]⟩)∧(w5.alloc (.cells #[.int .i64 (t+1),.string (bs c.cl),.string (bs c.tx),.bool false,.slice none 0 0,.slice none 0 0] 58)).drew.grownBy w13 (blk PA)∧(blk A13=blk PA∨∃i,blk A13=some i∧(w5.alloc (.cells #[.int .i64 (t+1),.string (bs c.cl),.string (bs c.tx),.bool false,.slice none 0 0,.slice none 0 0] 58)).drew.heap.size≤i)))
 case first=>
  clear HO HSv HW5' HW5e HB5 HB HP HT HW2 HS HW5 HOA HSf
  go_region_law (refine ARM rfl rfl (by simp[Act.eval,Act.put]) (by simp[Act.eval,Act.put]) ?_;intro A13 c13 w13 hq hown13;obtain⟨q7,qf,ql⟩:=hq)
  all_goals
   go_wp2_with fail
   go_meet
   case rel=>exact⟨A13,c13,w13,rfl,rfl,hown13⟩
 case rest=>
  obtain⟨A13,c13,w13,rfl,hwx,hown13⟩:=hcut
  obtain⟨hS,hPA,hpc⟩:=HS.out
  have h1:=HW5'.out
  have h2:=h1.at_.calm (Below.drew (Calm.alloc (Calm.refl w5) (.cells #[.int .i64 (t+1),.string (bs c.cl),.string (bs c.tx),.bool false,.slice none 0 0,.slice none 0 0] 58)))
  have h3:=h2.addPn (n:=0) HP.out ⟨t+1,c.cl,c.tx,false,none,0,[]⟩ (by rw[show ({ x with tk:=t+1 }:Srv).PA=PA from hPA];exact hown13.out.2.1) hown13.out.1 (by
   rw[show ({ x with tk:=t+1 }:Srv).PA=PA from hPA]
   rcases hown13.out.2.2 with h | ⟨i,hi,hge⟩
   ·exact .inl h
   ·exact .inr ⟨i,hi,hge⟩) rfl
  have HWn:Hid (Went w x wc { x with tk:=t+1,PA:=A13,pc:=c13,ps:=[⟨t+1,c.cl,c.tx,false,none,0,[]⟩] }):=by
   show Went _ _ _ _
   rw[hwx,←hS]
   exact ((Went.same HSv.out HB.out.calm).trans h1).trans ((Went.same h1.at_ (Below.drew (Calm.alloc (Calm.refl w5) _))).trans h3)
  have hk:Kp x.F w2 wc:=by
   rw[hwx,←hS]
   exact (h1.trans ((Went.same h1.at_ (Below.drew (Calm.alloc (Calm.refl w5) _))).trans h3)).kp
  have hr:=(HB.out.kp hk HO.out.1 HO.out.2).2
  have r0:=hr.at_ 0 _ rfl
  have r1:=hr.at_ 1 _ rfl
  have r2:=hr.at_ 2 _ rfl
  have f0:=hr.fz 0
  have f1:=hr.fz 1
  have f2:=hr.fz 2
  have lr:=hr.lt
  have s1:=HWn.out.at_.z.at_ 1 _ rfl
  have ls:=HWn.out.at_.z.lt
  simp only[hS] at s1 ls
  have HOwn:=Lib.hid hown13.out
  clear h1 h2 h3 hk hr hwx hS hPA hpc hown13 a1 a7 aS d1 d7 d3
  go_wp2_with fail
  refine bodyPost_ret (v:=.tuple #[.agg #[.int .i64 (t+1),.int .i64 0,.int .i64 0],.int .i64 0]) ?_ rfl ⟨rfl,A13,c13,?_⟩
  ·rw[results_cell_slot rfl]
   go_simp
  ·have:=HT.out
   unfold newPn
   rw[this,←HS.out.1]
   refine Went.box HSv.out HWn.out (b:=w.heap.size+1) (by omega) ?_ (Kp.set3 (F:=fun i=>i=w.heap.size+1) (Kp.refl _ _) (.inl rfl) _ _ _) (.inl ⟨rfl,rfl⟩) (.inl ⟨rfl,rfl⟩) (.inl ⟨rfl,rfl⟩) (fun q hq=>?_)
   ·rintro (hf | hf | hf | hf | hf)
    ·exact HO.out.2 (.inl hf)
    ·exact HO.out.2 (.inr (.inl hf))
    ·exact HO.out.2 (.inr (.inr (.inl hf)))
    ·exact HO.out.2 (.inr (.inr (.inr (.inl hf))))
    ·have hf':blk A13=some (w.heap.size+1):=hf
     rcases HOwn.out.2.2 with h | ⟨i,hi,hge⟩
     ·rw[h,←HS.out.2.1] at hf'
      exact HO.out.2 (.inr (.inr (.inr (.inr hf'))))
     ·rw[hi] at hf'
      have e:i=w.heap.size+1:=Option.some.inj hf'
      have h1:=HB.out.r.lt
      have h2:=HW5'.out.kp.size
      have h3:=(Calm.alloc (Calm.refl w5) (.cells #[.int .i64 (t+1),.string (bs c.cl),.string (bs c.tx),.bool false,.slice none 0 0,.slice none 0 0] 58)).size
      have h4:(w5.alloc (.cells #[.int .i64 (t+1),.string (bs c.cl),.string (bs c.tx),.bool false,.slice none 0 0,.slice none 0 0] 58)).heap.size≤i:=hge
      omega
   ·rw[List.mem_singleton.1 hq]
    exact .inr (fun U _ hne=>absurd rfl hne)
end Go.Proofs.YtcofdlipapnohaaGreatDoor
