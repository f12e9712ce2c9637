/- Walk: (*Server).Do, whatever the command's method does. -/
import Derived.Maps.Views
import Derived.Deep.RegionHeld3
import Derived.Deep.DeepCutAuto
import Derived.BigQuiet
import Derived.Test.YtcofdlipapnohaaGreatDoorZSrvB
import Derived.Test.YtcofdlipapnohaaGreatDoorZSrvN
import Derived.Test.YtcofdlipapnohaaGreatDoorZStrCheck
set_option linter.unusedVariables false
set_option linter.unusedSimpArgs false
namespace Go.Proofs.YtcofdlipapnohaaGreatDoor
open Go Go.RowKit Sy
theorem keyI_law:Maps.Keyed Tryz.prog 3:=Maps.int_keyed Tryz.underlying3
structure Knd where
 κ:Nat
 fs:List Nat
 F:Nat
 b:Nat
def Knd.v (x:Knd):Value:=.agg #[.slice (some ⟨x.b,0,none⟩) x.fs.length x.fs.length,.func (.func x.F) #[] #[]]
def Knd.cells (x:Knd):List Value:=x.fs.map fun (i:Nat)=>Value.int .i64 (Int.ofNat i)
def kndD (L:List Knd):DataW Value:=L.foldl (fun D x=>D.put (.int .i64 (x.κ:Int)) (.held x.v)) (.map [])
structure KI (w0 w:World) (M:Nat) (L:List Knd):Prop where
 calm:Calm w0 w
 m:w.ownsMap Tryz.prog 3 heldR M L.length (kndD L)
 ge:w0.heap.size≤M
 rows:∀x∈L,x.b≠M∧x.b < w.heap.size∧∀(i:Nat) v,x.cells[i]?=some v→w.cell? ⟨x.b,i,none⟩=some v
theorem KI.calm' {w0 w w':World} {M:Nat} {L:List Knd} (h:KI w0 w M L) (hc:Calm w w'):KI w0 w' M L:=by
 refine⟨h.calm.trans hc,?_,h.ge,fun x hx=>?_⟩
 ·obtain⟨es,clock,hb,r⟩:=h.m
  exact⟨es,clock,(hc.block M (Array.getElem?_eq_some_iff.1 hb).1).trans hb,r⟩
 ·obtain⟨h1,h2,h3⟩:=h.rows x hx
  exact⟨h1,Nat.lt_of_lt_of_le h2 hc.size,fun i v hv=>Calm.at_ hc (h3 i v hv) h2⟩
theorem KI.step {w0 w:World} {M:Nat} {L:List Knd} (h:KI w0 w M L) (hl:L.length≤100) (x:Knd) (hx:x.b=w.heap.size) (h100:x.κ≤100) (T:TypeId) :
  ∃w',(Instr.mapUpdate 75 (.map (some M)) (.int .i64 (x.κ:Int)) x.v).run Tryz.prog (w.alloc (.cells x.cells.toArray T))=.ok () w'∧KI w0 w' M (L++[x]):=by
 have h1:=h.calm' ((Calm.refl w).alloc (.cells x.cells.toArray T))
 have hwf:(Lit.int .i64 (x.κ:Int)).wf=true:=by
  have:x.κ < 101:=by omega
  generalize x.κ=k at this
  clear hx
  revert this
  revert k
  decide
 obtain⟨w',hrun,hown,hg⟩:=World.ownsMap.update h1.m keyI_law Tryz.underlying75 (by unfold maxLen;omega) (Maps.keyOf_int_mk Tryz.underlying3 hwf) (show heldR x.v=some (.held x.v,[]) from rfl)
 refine⟨w',hrun,⟨?_,?_,h.ge,fun y hy=>?_⟩⟩
 ·exact⟨hg.os.trans h1.calm.os,hg.tape.trans h1.calm.tape,hg.output.trans h1.calm.output,Nat.le_trans h1.calm.size hg.size,fun k hk=>(hg.block k (Nat.lt_of_lt_of_le hk h1.calm.size) (fun e=>by cases e;have:=h.ge;omega)).trans (h1.calm.block k hk)⟩
 ·rw[List.length_append]
  unfold kndD
  rw[List.foldl_append]
  exact hown
 ·rcases List.mem_append.1 hy with hy | hy
  ·obtain⟨g1,g2,g3⟩:=h1.rows y hy
   exact⟨g1,Nat.lt_of_lt_of_le g2 hg.size,fun i v hv=>hg.cell (g3 i v hv) (fun e=>g1 (by cases e;rfl))⟩
  ·rw[List.mem_singleton] at hy
   subst hy
   have hne:y.b≠M:=by
    have:=h.m.lt
    omega
   refine⟨hne,?_,fun i v hv=>hg.cell ?_ (fun e=>hne (by cases e;rfl))⟩
   ·have:=hg.size
    simp at this
    omega
   ·rw[hx,cell_of_row _ w.heap.size _ _ _ _ (heap_alloc_new w _)]
    simpa using hv
def kindsL:List (Nat × List Nat × Nat):=[(1,[7],22),(2,[0,1,8],23),(3,[0,6],24),(4,[0,3,9,10],25),(5,[0,3],26),(14,[0,3],27),(6,[0,3,1],28),(7,[0,3],29),(8,[0,3],30),(9,[0,2,5],31),(10,[0,2,4,5],32),(11,[0,2,4],33),(12,[2],34),(13,[5],35)]
set_option maxRecDepth 100000 in
set_option maxHeartbeats 4000000 in
theorem srvKinds_c (w:World):Calls Tryz.prog 13 #[] w fun e w'=>∃M L,e=.returned (.map (some M))∧L.map (fun x:Knd=>(x.κ,x.fs,x.F))=kindsL∧KI w w' M L:=by
 have hmm:=@run_makeMap Tryz.prog
 have HK0:=Lib.hid (KI.mk (L:=[]) ((Calm.refl w).alloc (.map #[] 0)) (World.ownsMap_made w _ _ _) (Nat.le_refl _) (fun x hx=>(by cases hx)))
 obtain⟨w1,r1,K1⟩:=HK0.out.step (by simp) ⟨1,[7],22,w.heap.size+1⟩ (by simp) (by simp) 3
 replace r1:(Instr.mapUpdate 75 (.map (some w.heap.size)) (.int .i64 1) (.agg #[.slice (some ⟨w.heap.size+1,0,none⟩) 1 1,.func (.func 22) #[] #[]])).run Tryz.prog ((w.alloc (.map #[] 0)).alloc (.cells #[.int .i64 7] 3))=.ok () w1:=r1
 have HK1:=Lib.hid K1
 clear K1
 obtain⟨w2,r2,K2⟩:=HK1.out.step (by simp) ⟨2,[0,1,8],23,w1.heap.size⟩ (by simp) (by simp) 3
 replace r2:(Instr.mapUpdate 75 (.map (some w.heap.size)) (.int .i64 2) (.agg #[.slice (some ⟨w1.heap.size,0,none⟩) 3 3,.func (.func 23) #[] #[]])).run Tryz.prog (w1.alloc (.cells #[.int .i64 0,.int .i64 1,.int .i64 8] 3))=.ok () w2:=r2
 have HK2:=Lib.hid K2
 clear K2
 obtain⟨w3,r3,K3⟩:=HK2.out.step (by simp) ⟨3,[0,6],24,w2.heap.size⟩ (by simp) (by simp) 3
 replace r3:(Instr.mapUpdate 75 (.map (some w.heap.size)) (.int .i64 3) (.agg #[.slice (some ⟨w2.heap.size,0,none⟩) 2 2,.func (.func 24) #[] #[]])).run Tryz.prog (w2.alloc (.cells #[.int .i64 0,.int .i64 6] 3))=.ok () w3:=r3
 have HK3:=Lib.hid K3
 clear K3
 obtain⟨w4,r4,K4⟩:=HK3.out.step (by simp) ⟨4,[0,3,9,10],25,w3.heap.size⟩ (by simp) (by simp) 3
 replace r4:(Instr.mapUpdate 75 (.map (some w.heap.size)) (.int .i64 4) (.agg #[.slice (some ⟨w3.heap.size,0,none⟩) 4 4,.func (.func 25) #[] #[]])).run Tryz.prog (w3.alloc (.cells #[.int .i64 0,.int .i64 3,.int .i64 9,.int .i64 10] 3))=.ok () w4:=r4
 have HK4:=Lib.hid K4
 clear K4
 obtain⟨w5,r5,K5⟩:=HK4.out.step (by simp) ⟨5,[0,3],26,w4.heap.size⟩ (by simp) (by simp) 3
 replace r5:(Instr.mapUpdate 75 (.map (some w.heap.size)) (.int .i64 5) (.agg #[.slice (some ⟨w4.heap.size,0,none⟩) 2 2,.func (.func 26) #[] #[]])).run Tryz.prog (w4.alloc (.cells #[.int .i64 0,.int .i64 3] 3))=.ok () w5:=r5
 have HK5:=Lib.hid K5
 clear K5
 obtain⟨w6,r6,K6⟩:=HK5.out.step (by simp) ⟨14,[0,3],27,w5.heap.size⟩ (by simp) (by simp) 3
 replace r6:(Instr.mapUpdate 75 (.map (some w.heap.size)) (.int .i64 14) (.agg #[.slice (some ⟨w5.heap.size,0,none⟩) 2 2,.func (.func 27) #[] #[]])).run Tryz.prog (w5.alloc (.cells #[.int .i64 0,.int .i64 3] 3))=.ok () w6:=r6
 have HK6:=Lib.hid K6
 clear K6
 obtain⟨w7,r7,K7⟩:=HK6.out.step (by simp) ⟨6,[0,3,1],28,w6.heap.size⟩ (by simp) (by simp) 3
 replace r7:(Instr.mapUpdate 75 (.map (some w.heap.size)) (.int .i64 6) (.agg #[.slice (some ⟨w6.heap.size,0,none⟩) 3 3,.func (.func 28) #[] #[]])).run Tryz.prog (w6.alloc (.cells #[.int .i64 0,.int .i64 3,.int .i64 1] 3))=.ok () w7:=r7
 have HK7:=Lib.hid K7
 clear K7
 obtain⟨w8,r8,K8⟩:=HK7.out.step (by simp) ⟨7,[0,3],29,w7.heap.size⟩ (by simp) (by simp) 3
 replace r8:(Instr.mapUpdate 75 (.map (some w.heap.size)) (.int .i64 7) (.agg #[.slice (some ⟨w7.heap.size,0,none⟩) 2 2,.func (.func 29) #[] #[]])).run Tryz.prog (w7.alloc (.cells #[.int .i64 0,.int .i64 3] 3))=.ok () w8:=r8
 have HK8:=Lib.hid K8
 clear K8
 obtain⟨w9,r9,K9⟩:=HK8.out.step (by simp) ⟨8,[0,3],30,w8.heap.size⟩ (by simp) (by simp) 3
 replace r9:(Instr.mapUpdate 75 (.map (some w.heap.size)) (.int .i64 8) (.agg #[.slice (some ⟨w8.heap.size,0,none⟩) 2 2,.func (.func 30) #[] #[]])).run Tryz.prog (w8.alloc (.cells #[.int .i64 0,.int .i64 3] 3))=.ok () w9:=r9
 have HK9:=Lib.hid K9
 clear K9
 obtain⟨w10,r10,K10⟩:=HK9.out.step (by simp) ⟨9,[0,2,5],31,w9.heap.size⟩ (by simp) (by simp) 3
 replace r10:(Instr.mapUpdate 75 (.map (some w.heap.size)) (.int .i64 9) (.agg #[.slice (some ⟨w9.heap.size,0,none⟩) 3 3,.func (.func 31) #[] #[]])).run Tryz.prog (w9.alloc (.cells #[.int .i64 0,.int .i64 2,.int .i64 5] 3))=.ok () w10:=r10
 have HK10:=Lib.hid K10
 clear K10
 obtain⟨w11,r11,K11⟩:=HK10.out.step (by simp) ⟨10,[0,2,4,5],32,w10.heap.size⟩ (by simp) (by simp) 3
 replace r11:(Instr.mapUpdate 75 (.map (some w.heap.size)) (.int .i64 10) (.agg #[.slice (some ⟨w10.heap.size,0,none⟩) 4 4,.func (.func 32) #[] #[]])).run Tryz.prog (w10.alloc (.cells #[.int .i64 0,.int .i64 2,.int .i64 4,.int .i64 5] 3))=.ok () w11:=r11
 have HK11:=Lib.hid K11
 clear K11
 obtain⟨w12,r12,K12⟩:=HK11.out.step (by simp) ⟨11,[0,2,4],33,w11.heap.size⟩ (by simp) (by simp) 3
 replace r12:(Instr.mapUpdate 75 (.map (some w.heap.size)) (.int .i64 11) (.agg #[.slice (some ⟨w11.heap.size,0,none⟩) 3 3,.func (.func 33) #[] #[]])).run Tryz.prog (w11.alloc (.cells #[.int .i64 0,.int .i64 2,.int .i64 4] 3))=.ok () w12:=r12
 have HK12:=Lib.hid K12
 clear K12
 obtain⟨w13,r13,K13⟩:=HK12.out.step (by simp) ⟨12,[2],34,w12.heap.size⟩ (by simp) (by simp) 3
 replace r13:(Instr.mapUpdate 75 (.map (some w.heap.size)) (.int .i64 12) (.agg #[.slice (some ⟨w12.heap.size,0,none⟩) 1 1,.func (.func 34) #[] #[]])).run Tryz.prog (w12.alloc (.cells #[.int .i64 2] 3))=.ok () w13:=r13
 have HK13:=Lib.hid K13
 clear K13
 obtain⟨w14,r14,K14⟩:=HK13.out.step (by simp) ⟨13,[5],35,w13.heap.size⟩ (by simp) (by simp) 3
 replace r14:(Instr.mapUpdate 75 (.map (some w.heap.size)) (.int .i64 13) (.agg #[.slice (some ⟨w13.heap.size,0,none⟩) 1 1,.func (.func 35) #[] #[]])).run Tryz.prog (w13.alloc (.cells #[.int .i64 5] 3))=.ok () w14:=r14
 have HK14:=Lib.hid K14
 clear K14
 go_enter Tryz.func13,Tryz.ntmps13
 go_wp2_with fail
 go_ret
 exact⟨_,_,rfl,rfl,HK14.out⟩
theorem indexI_c (fs:List Nat) (z b:Nat) (w:World) (hb:b < w.heap.size) (hl:fs.length≤8) (hc:∀(i:Nat) v,(fs.map fun (k:Nat)=>Value.int .i64 (Int.ofNat k))[i]?=some v→w.cell? ⟨b,i,none⟩=some v) :
  Calls Tryz.prog 36 #[.slice (some ⟨b,0,none⟩) fs.length fs.length,.int .i64 (z:Int)] w fun e w'=>(∃r:Int,e=.returned (.int .i64 r)∧(decide (0≤r)=decide (z∈fs)))∧w=w':=by
 obtain⟨n,hn⟩:∃n,fs.length=n:=⟨_,rfl⟩
 rw[hn] at hl ⊢
 have HC:Hid (∀j,j < n→∃k:Nat,fs[j]?=some k∧w.cell? ⟨b,j,none⟩=some (.int .i64 (k:Int))):=fun j hj=>by
  have h1:=List.getElem?_eq_getElem (l:=fs) (i:=j) (by omega)
  exact⟨fs[j],h1,hc j _ (by rw[List.getElem?_map,h1];rfl)⟩
 have HN:=Lib.hid hn
 clear hc hn
 go_enter Tryz.func36,Tryz.ntmps36
 go_wp2_with fail
 go_loopw [8] (fun i wr=>∃j:Nat,j≤n∧i=.int .i64 j∧wr=w∧Hid (∀k,k < j→fs[k]?≠some z)) (fun i _=>n - (intOf i).toNat)
 case atStart=>exact⟨0,Nat.zero_le _,rfl,rfl,fun k hk=>by omega⟩
 case round=>
  obtain⟨j,hj,rfl,rfl,HP⟩:=hrel
  by_cases h0:j < n
  ·obtain⟨k,hk,c0⟩:=HC.out j h0
   have HK:=Lib.hid hk
   have hj1:(j:Int) < (n:Int):=by omega
   have hj0:(0:Int)≤(j:Int):=by omega
   clear hk
   by_cases hzk:(z:Int)=(k:Int)
   ·have hb1:((z:Int) == (k:Int))=true:=by simpa using hzk
    have HZ:=Lib.hid hzk
    clear hzk
    go_wp2_with fail
    go_ret
    refine⟨⟨(j:Int),rfl,?_⟩,rfl⟩
    have hm:z∈fs:=by
     have:z=k:=by have:=HZ.out;omega
     rw[this]
     exact List.mem_of_getElem? HK.out
    rw[decide_eq_true hm,decide_eq_true (by omega)]
   ·have hb1:((z:Int) == (k:Int))=false:=by simpa using hzk
    have HZ:=Lib.hid hzk
    clear hzk
    go_wp2_with fail
    go_roundw
    case rel=>
     refine⟨j+1,by omega,by go_num,(by first | exact rfl | trivial),fun i hi=>?_⟩
     by_cases e:i=j
     ·rw[e,HK.out]
      intro h
      have h2:=Option.some.inj h
      exact HZ.out (by rw[h2])
     ·exact HP.out i (by omega)
    case measure=>simp[intOf];omega
  ·obtain rfl:j=n:=by omega
   go_wp2_with fail
   go_ret
   refine⟨⟨-1,rfl,?_⟩,rfl⟩
   have hm:¬z∈fs:=fun hm=>by
    obtain⟨i,hi⟩:=List.getElem?_of_mem hm
    exact HP.out i (by rw[←HN.out];exact (List.getElem?_eq_some_iff.1 hi).1) hi
   rw[decide_eq_false hm]
   rfl
theorem containsI_c (fs:List Nat) (z b n:Nat) (w:World) (hb:b < w.heap.size) (hl:fs.length≤8) (hn:fs.length=n) (hc:∀(i:Nat) v,(fs.map fun (k:Nat)=>Value.int .i64 (Int.ofNat k))[i]?=some v→w.cell? ⟨b,i,none⟩=some v) :
  Calls Tryz.prog 14 #[.slice (some ⟨b,0,none⟩) n n,.int .i64 (z:Int)] w fun e w'=>e=.returned (.bool (decide (z∈fs)))∧w=w':=by
 have K:=Lib.hid (indexI_c fs z b w hb hl hc)
 rw[hn] at K
 clear hc hn
 go_enter Tryz.func14,Tryz.ntmps14
 go_wp2_with fail
 refine K.out.mono ?_
 rintro e w' ⟨⟨r,rfl,hr⟩,rfl⟩
 have HR:=Lib.hid hr
 clear hr
 go_wp2_with fail
 go_ret
 rw[←HR.out]
 exact⟨rfl,rfl⟩
theorem kndD_has:∀(L:List Knd) (x:Knd),x∈L→Maps.has (kndD L) (.int .i64 (x.κ:Int))=true:=by
 intro L
 suffices H:∀(R:List Knd) (x:Knd),x∈R→Maps.IsMap (kndD R.reverse)∧Maps.has (kndD R.reverse) (.int .i64 (x.κ:Int))=true by
  intro x hx
  have:=(H L.reverse x (List.mem_reverse.2 hx)).2
  rwa [List.reverse_reverse] at this
 intro R
 have hM:∀R:List Knd,Maps.IsMap (kndD R.reverse):=fun R=>by
  induction R with
  |nil=>exact Maps.isMap_empty
  |cons y t ih=>
   have e:kndD (y :: t).reverse=(kndD t.reverse).put (.int .i64 (y.κ:Int)) (.held y.v):=by
    unfold kndD
    rw[List.reverse_cons,List.foldl_append]
    rfl
   rw[e]
   exact ih.put _ _
 induction R with
 |nil=>intro x hx;cases hx
 |cons y t ih=>
  intro x hx
  refine⟨hM _,?_⟩
  have e:kndD (y :: t).reverse=(kndD t.reverse).put (.int .i64 (y.κ:Int)) (.held y.v):=by
   unfold kndD
   rw[List.reverse_cons,List.foldl_append]
   rfl
  rw[e]
  rcases List.mem_cons.1 hx with rfl | hx
  ·exact Maps.has_put_same (hM t) (by exact trivial) _
  ·by_cases e2:(Lit.int .i64 (x.κ:Int))=.int .i64 (y.κ:Int)
   ·rw[e2]
    exact Maps.has_put_same (hM t) (by exact trivial) _
   ·rw[Maps.has_put_other e2]
    exact (ih x hx).2
theorem kndD_at:∀(L:List Knd) (x:Knd) (z:DataW Value),(L.map (·.κ)).Nodup→x∈L→(kndD L).atKey (.int .i64 (x.κ:Int)) z=.held x.v:=by
 intro L
 suffices H:∀(R:List Knd) (x:Knd) (z:DataW Value),(R.map (·.κ)).Nodup→x∈R→Maps.IsMap (kndD R.reverse)∧(kndD R.reverse).atKey (.int .i64 (x.κ:Int)) z=.held x.v by
  intro x z hnd hx
  have:=(H L.reverse x z (by rw[List.map_reverse];exact List.pairwise_reverse.2 (List.Pairwise.imp (fun h=>Ne.symm h) hnd)) (List.mem_reverse.2 hx)).2
  rwa [List.reverse_reverse] at this
 intro R
 have hM:∀R:List Knd,Maps.IsMap (kndD R.reverse):=fun R=>by
  induction R with
  |nil=>exact Maps.isMap_empty
  |cons y t ih=>
   have e:kndD (y :: t).reverse=(kndD t.reverse).put (.int .i64 (y.κ:Int)) (.held y.v):=by
    unfold kndD
    rw[List.reverse_cons,List.foldl_append]
    rfl
   rw[e]
   exact ih.put _ _
 induction R with
 |nil=>intro x z _ hx;cases hx
 |cons y t ih=>
  intro x z hnd hx
  rw[List.map_cons,List.nodup_cons] at hnd
  refine⟨hM _,?_⟩
  have e:kndD (y :: t).reverse=(kndD t.reverse).put (.int .i64 (y.κ:Int)) (.held y.v):=by
   unfold kndD
   rw[List.reverse_cons,List.foldl_append]
   rfl
  rw[e]
  rcases List.mem_cons.1 hx with rfl | hx
  ·exact Maps.atKey_put_same (hM t) (by exact trivial) _ _
  ·rw[Maps.atKey_put_other (by
    intro h
    have h2:(x.κ:Int)=(y.κ:Int):=by injection h
    have h3:x.κ=y.κ:=by omega
    exact hnd.1 (h3 ▸ List.mem_map.2 ⟨x,hx,rfl⟩))]
   exact (ih x z hnd.2 hx).2
theorem zero_kind (w:World):(zeroValue 73).run Tryz.prog w=.ok (.agg #[.slice none 0 0,.nilFunc]) w:=by kernel_rfl
theorem kindsL_nodup:(kindsL.map (·.1)).Nodup:=by decide
theorem kindsL_small:∀p∈kindsL,p.1≤14∧p.2.1.length≤8∧p.2.1≠[]:=by decide
theorem kb_keep {W:World} {B kb:Nat} {fs:List Nat} (hne:fs≠[]) (hZ:CellsB W B [.slice none 0 0,.nilFunc]) (hk:∀(i:Nat) v,(fs.map fun (k:Nat)=>Value.int .i64 (Int.ofNat k))[i]?=some v→W.cell? ⟨kb,i,none⟩=some v) (u0 u1:Value) :
  ∀(i:Nat) v,(fs.map fun (k:Nat)=>Value.int .i64 (Int.ofNat k))[i]?=some v→((W.setCell ⟨B,0,none⟩ u0).setCell ⟨B,1,none⟩ u1).cell? ⟨kb,i,none⟩=some v:=fun i v hv=>by
 have hbb:kb≠B:=fun e=>by
  cases fs with
  |nil=>exact hne rfl
  |cons y t=>
   have h0:=hk 0 _ rfl
   rw[e,hZ.at_ 0 _ rfl] at h0
   cases h0
 rw[World.cell?_setCell_other _ _ _ _ (fun e=>hbb (by cases e;rfl)),World.cell?_setCell_other _ _ _ _ (fun e=>hbb (by cases e;rfl))]
 exact hk i v hv
theorem kind_look {w0 w:World} {M:Nat} {L:List Knd} (h:KI w0 w M L) (hL:L.map (fun x:Knd=>(x.κ,x.fs,x.F))=kindsL) {κ:Nat} {fs:List Nat} {F:Nat} (hm:(κ,fs,F)∈kindsL) :
  ∃kb,kb < w.heap.size∧(∀(i:Nat) v,(fs.map fun (k:Nat)=>Value.int .i64 (Int.ofNat k))[i]?=some v→w.cell? ⟨kb,i,none⟩=some v)∧∀W,Calm w W→(Instr.lookup 75 (.map (some M)) (.int .i64 (κ:Int)) true).run Tryz.prog W=.ok (.tuple #[.agg #[.slice (some ⟨kb,0,none⟩) fs.length fs.length,.func (.func F) #[] #[]],.bool true]) W:=by
 rw[←hL] at hm
 obtain⟨x,hx,hxe⟩:=List.mem_map.1 hm
 obtain⟨κ',fs',F',b⟩:=x
 simp only[Prod.mk.injEq] at hxe
 obtain⟨rfl,rfl,rfl⟩:=hxe
 obtain⟨h1,h2,h3⟩:=h.rows _ hx
 have hsm:=(kindsL_small (κ',fs',F') (by rw[←hL];exact hm)).1
 have hnd:(L.map (·.κ)).Nodup:=by
  have e:L.map (·.κ)=(L.map (fun x:Knd=>(x.κ,x.fs,x.F))).map (·.1):=by rw[List.map_map];rfl
  rw[e,hL]
  exact kindsL_nodup
 have hwf:(Lit.int .i64 (κ':Int)).wf=true:=by
  have:κ' < 15:=by have h:κ'≤14:=hsm;omega
  clear hnd h3 h2 h1 hx hm hsm
  revert this
  revert κ'
  decide
 refine⟨b,h2,h3,fun W hW=>?_⟩
 have hM:=(h.calm' hW).m
 obtain⟨v,ps,hrun,hv⟩:=World.ownsMap.look_ok hM keyI_law Tryz.underlying75 (zero_kind W) (show heldR (.agg #[.slice none 0 0,.nilFunc])=some (.held (.agg #[.slice none 0 0,.nilFunc]),[]) from rfl) (Maps.keyOf_int_mk Tryz.underlying3 hwf)
 have h5:=kndD_at L ⟨κ',fs',F',b⟩ (.held (.agg #[.slice none 0 0,.nilFunc])) hnd hx
 rw[h5] at hv
 have h6:=kndD_has L ⟨κ',fs',F',b⟩ hx
 rw[h6] at hrun
 have:v=Knd.v ⟨κ',fs',F',b⟩:=by
  simp only[heldR,Option.some.injEq,Prod.mk.injEq,DataW.held.injEq] at hv
  exact hv.1
 rw[hrun,this]
 rfl
set_option maxRecDepth 100000 in
set_option maxHeartbeats 16000000 in
theorem do_c (x:Srv) (c:Cmd) (κ:Nat) (fs:List Nat) (F:Nat) (w:World) (h:SrvAt w x) (hm:(κ,fs,F)∈kindsL) (hk:c.kind=(κ:Int))
  (eF:∀args W,(callFunc F args).run Tryz.prog W=.ok (.enter F args) W)
  (h2:x.cs.length≤2) (hcl:0∈fs→κ≠2→(bsC x.cs c.cl).2=true) (hpn:3∈fs→∃p,x.ps=[p]∧p.num=c.num∧p.cl=c.cl)
  (Q:World→Ending→World→Prop) (R:Ending→World→Prop)
  (hF:∀W,Calm w W→Calls Tryz.prog F #[.pointer (some ⟨x.S,0,none⟩),cmV c] W (Q W))
  (hQ:∀W e w' b,Calm w W→w.heap.size≤b→b < W.heap.size→Q W e w'→∃r0 r1 r2 z:Int,e=.returned (.tuple #[.agg #[.int .i64 r0,.int .i64 r1,.int .i64 r2],.int .i64 z])∧Kp x.F W w'∧R e (((w'.setCell ⟨b,0,none⟩ (.int .i64 r0)).setCell ⟨b,1,none⟩ (.int .i64 r1)).setCell ⟨b,2,none⟩ (.int .i64 r2))) :
  Calls Tryz.prog 6 #[.pointer (some ⟨x.S,0,none⟩),cmV c] w R:=by
 have hsm:=(kindsL_small _ hm).2.1
 have Hne:Hid (fs≠[]):=(kindsL_small _ hm).2.2
 obtain⟨n,hn⟩:∃n,fs.length=n:=⟨_,rfl⟩
 have hb0:=CmBox.new w c
 have hO:=hb0.off h
 have KC:Hid (∀W,Calm w W→Calls Tryz.prog 15 #[.pointer (some ⟨x.S,0,none⟩),.string (bs c.cl)] W fun e w'=>e=.returned (.tuple #[.int .i64 (bsC x.cs c.cl).1,.bool (bsC x.cs c.cl).2])∧Calm W w'):=fun W hW=>client_c x c.cl W (h.calm hW) h2
 have KP:Hid (3∈fs→∀W,Calm w W→Calls Tryz.prog 16 #[.pointer (some ⟨x.S,0,none⟩),.int .i64 c.num] W fun e w'=>e=.returned (.tuple #[.int .i64 0,.bool true])∧Calm W w'):=fun h3 W hW=>by
  obtain⟨p,hp,hpnum,_⟩:=hpn h3
  have:=pending_c x p c.num W (h.calm hW) hp
  rw[show pendI p c.num=0 by unfold pendI;rw[if_pos hpnum],show (p.num == c.num)=true by simpa using hpnum] at this
  exact this
 have HPg:Hid (3∈fs→∃g,∀W,Calm w W→W.cell? ⟨x.S,7,none⟩=some (.slice (some ⟨g,0,none⟩) 1 x.pc)∧W.cell? ⟨g,1,none⟩=some (.string (bs c.cl))∧x.S < W.heap.size∧g < W.heap.size∧1≤x.pc):=fun h3=>by
  obtain⟨p,hp,_,hpc⟩:=hpn h3
  obtain⟨g,hg,hg1,_⟩:=h.pnAt hp
  refine⟨g,fun W hW=>?_⟩
  have z7:=(h.calm hW).z.at_ 7 _ rfl
  rw[hp,hg] at z7
  obtain⟨b,o,hA,hb,hk⟩:=(h.calm hW).pns hp (by simp)
  rw[hg] at hA
  cases hA
  have k1:=hk 0 p rfl 1 _ rfl
  rw[hpc] at k1
  exact⟨z7,k1,(h.calm hW).z.lt,hb,hg1⟩
 have HKL:Hid (∀W M (L:List Knd),KI W W M L→True):=fun _ _ _ _=>trivial
 have HK:Hid (∀(w0 W:World) (M:Nat) (L:List Knd),KI w0 W M L→L.map (fun x:Knd=>(x.κ,x.fs,x.F))=kindsL→∃kb,kb < W.heap.size∧(∀(i:Nat) v,(fs.map fun (k:Nat)=>Value.int .i64 (Int.ofNat k))[i]?=some v→W.cell? ⟨kb,i,none⟩=some v)∧∀W',Calm W W'→(Instr.lookup 75 (.map (some M)) (.int .i64 c.kind) true).run Tryz.prog W'=.ok (.tuple #[.agg #[.slice (some ⟨kb,0,none⟩) n n,.func (.func F) #[] #[]],.bool true]) W'):=fun w0 W M L hKI hL=>by
  have:=kind_look hKI hL hm
  rw[←hk,hn] at this
  exact this
 have HF:=Lib.hid hF
 have HQ:=Lib.hid hQ
 have HO:=Lib.hid hO
 have HSv:=Lib.hid h
 have HB:=Lib.hid hb0
 have HN:=Lib.hid hn
 have Hsm:=Lib.hid hsm
 have hkk:decide (κ=2)=decide (c.kind=2):=by rw[hk];simp;omega
 have HCl:Hid (0∈fs→¬c.kind=2→(bsC x.cs c.cl).2=true):=fun h0 h1=>hcl h0 (fun e=>h1 (by rw[hk,e];rfl))
 obtain⟨ci,hci⟩:∃ci,(bsC x.cs c.cl).1=ci:=⟨_,rfl⟩
 obtain⟨cb,hcb⟩:∃cb,(bsC x.cs c.cl).2=cb:=⟨_,rfl⟩
 rw[hci,hcb] at KC
 rw[hcb] at HCl
 clear h hm hk hcl hpn hF hQ hO hb0 hn hsm h2 HKL hkk hci hcb
 obtain⟨S,hS⟩:∃S,x.S=S:=⟨_,rfl⟩
 rw[hS] at KC KP HPg HF ⊢
 have HS:=Lib.hid hS
 clear hS
 go_enter Tryz.func6,Tryz.ntmps6
 go_upto_region 1 with (fail)
 obtain⟨w1,hw1⟩:∃w1,w1=cmBox w c:=⟨_,rfl⟩
 have hwx:(w.alloc (cmO c)).alloc (.cells #[.int .i64 0,.int .i64 0,.int .i64 0] 35)=w1:=hw1.symm
 rw[hwx]
 rw[←hw1] at HB
 clear hw1 hwx
 have HSX:Hid (∀W,Calm w1 W→W.cell? ⟨w.heap.size,0,none⟩=some (.int .i64 c.kind)):=fun W hW=>(HB.out.to hW).c.at_ 0 _ rfl
 have s0:=HSX.out w1 (Calm.refl _)
 go_cut [6,7] (fun a b wx=>∃B kb,a=.pointer (some ⟨B,0,none⟩)∧b=.bool true∧Hid (Calm w1 wx∧CellsB wx B [.slice (some ⟨kb,0,none⟩) n n,.func (.func F) #[] #[]]∧kb < wx.heap.size∧∀(i:Nat) v,(fs.map fun (k:Nat)=>Value.int .i64 (Int.ofNat k))[i]?=some v→wx.cell? ⟨kb,i,none⟩=some v))
 case first=>
  have KK:=Lib.hid fun (W:World)=>srvKinds_c W
  clear KC KP HPg HF HQ HO HSv HB HN HCl HS Hsm
  go_region_held3 (fun W=>W.cell? ⟨w.heap.size,0,none⟩=some (.int .i64 c.kind))
   (first
    |with_reducible exact HSX.out _ (calm_set2 hkx (Nat.le_refl _) _ _)
    |with_reducible exact HSX.out _ (calm_set2 (hkx.alloc _) hkx.size _ _)
    |with_reducible exact HSX.out _ (Calm.refl _)
    |with_reducible exact HSX.out _ (Below.drew (Calm.refl _))
    |with_reducible exact HSX.out _ (Below.drew ((Calm.refl _).alloc _))
    |with_reducible exact HSX.out _ ((Calm.refl _).alloc _)
    |with_reducible exact HSX.out _ hkx
    |with_reducible exact HSX.out _ (Calm.alloc hkx _)
    |go_keep)
   (first
    |(go_at_call 13;refine (KK.out _).mono ?_;rintro e w5 ⟨M,L,rfl,hL,hKI⟩;obtain⟨kb,hkb,hkc,hlk⟩:=HK.out _ _ M L hKI hL;have hkx:Calm w1 w5:=Calm.trans (by first | exact Calm.refl _ | exact Below.drew (Calm.refl _) | exact (Calm.refl _).alloc _ | exact (Below.drew (Calm.refl _)).alloc _ | exact Below.drew ((Calm.refl _).alloc _)) hKI.calm;have hlk5:=hlk w5 (Calm.refl _);have hlk6:∀o,(Instr.lookup 75 (.map (some M)) (.int .i64 c.kind) true).run Tryz.prog (w5.alloc o)=.ok (.tuple #[.agg #[.slice (some ⟨kb,0,none⟩) n n,.func (.func F) #[] #[]],.bool true]) (w5.alloc o):=fun o=>hlk _ ((Calm.refl _).alloc _);(first | (with_reducible have hZ5:CellsB w5 w1.heap.size [.slice none 0 0,.nilFunc]:=CellsB.calm (by first | with_reducible exact CellsB.new w1 _ _ | with_reducible exact (CellsB.new w1 _ _).calm (Below.drew (Calm.refl _)) | with_reducible exact CellsB.new w1.drew _ _) hKI.calm;have f0:=hZ5.fz 0;have f1:=hZ5.fz 1;have z0:=hZ5.at_ 0 _ rfl;have z1:=hZ5.at_ 1 _ rfl) | skip);have HLK:=Lib.hid hlk;have HKC:=Lib.hid (And.intro hkb hkc);clear hlk hkc hKI hL))
  all_goals
   go_wp2_with fail
   go_meet
   case rel=>first
    |(with_reducible refine⟨_,kb,rfl,rfl,Lib.hid ⟨hkx.alloc _,CellsB.new w5 _ _,Nat.lt_of_lt_of_le HKC.out.1 ((Calm.refl w5).alloc _).size,fun i v hv=>Calm.at_ ((Calm.refl w5).alloc _) (HKC.out.2 i v hv) HKC.out.1⟩⟩)
    |exact⟨w1.heap.size,kb,rfl,rfl,Lib.hid ⟨calm_set2 hkx (Nat.le_refl _) _ _,hZ5.put [.slice (some ⟨kb,0,none⟩) n n,.func (.func F) #[] #[]] rfl,by rw[show ∀(W:World) a u b v,((W.setCell a u).setCell b v).heap.size=W.heap.size from fun _ _ _ _ _=>by simp[World.setCell]];exact HKC.out.1,kb_keep Hne.out hZ5 HKC.out.2 _ _⟩⟩
 case rest=>
  obtain⟨B,kb,rfl,rfl,HQ1⟩:=hcut
  obtain⟨w3,rfl⟩:∃w3,w3=wc:=⟨_,rfl⟩
  have HB3:Hid (CmBox w w3 c w.heap.size (w.heap.size+1)):=HB.out.to HQ1.out.1
  have HCt:=Lib.hid fun (W:World) (hW:Calm w3 W) (z:Nat)=>containsI_c fs z kb n W (Nat.lt_of_lt_of_le HQ1.out.2.2.1 hW.size) Hsm.out HN.out (fun i v hv=>Calm.at_ hW (HQ1.out.2.2.2 i v hv) HQ1.out.2.2.1)
  have HBk:=Lib.hid fun (W:World) (hW:Calm w3 W)=>HQ1.out.2.1.calm hW
  obtain⟨tt,htt⟩:∃tt,(decide (0∈fs) && !(c.kind == 2))=tt:=⟨_,rfl⟩
  have HTT:=Lib.hid htt
  have k0:=HQ1.out.2.1.at_ 0 _ rfl
  have lB:=HQ1.out.2.1.lt
  have a0:=HB3.out.c.at_ 0 _ rfl
  have l3:=HB3.out.c.lt
  clear htt s0 HQ1 HSX
  go_upto_region 4 with (fail)
  go_cut [29] (fun s wx=>s=.bool tt∧Hid (Calm w3 wx))
  case first=>
   go_wp2_with fail
   refine (HCt.out w3 (Calm.refl _) 0).mono ?_
   rintro e w' ⟨rfl,rfl⟩
   obtain⟨p0,hp0⟩:∃p0,decide (0∈fs)=p0:=⟨_,rfl⟩
   rw[hp0] at HTT ⊢
   clear hp0
   cases p0 with
   |false=>
    obtain rfl:false=tt:=HTT.out
    go_wp2_with fail
    go_meet
    case rel=>exact⟨rfl,Calm.refl _⟩
   |true=>
    obtain⟨b2,hb2⟩:∃b2,(c.kind == 2)=b2:=⟨_,rfl⟩
    rw[hb2] at HTT
    have hb3:(c.kind != 2)=!b2:=by rw[←hb2];rfl
    clear hb2
    cases b2 with
    |false=>
     obtain rfl:true=tt:=HTT.out
     go_wp2_with fail
     go_meet
     case rel=>exact⟨rfl,Calm.refl _⟩
    |true=>
     obtain rfl:false=tt:=HTT.out
     go_wp2_with fail
     go_meet
     case rel=>exact⟨rfl,Calm.refl _⟩
  case rest=>
   obtain⟨rfl,hc4⟩:=hcut
   obtain⟨w4,rfl⟩:∃w4,w4=wc:=⟨_,rfl⟩
   have HC4:Hid (CmBox w w4 c w.heap.size (w.heap.size+1)∧Calm w3 w4):=⟨HB3.out.to hc4.out,hc4.out⟩
   have a1:=HC4.out.1.c.at_ 1 _ rfl
   have l3:=HC4.out.1.c.lt
   clear hc4 k0 lB a0
   go_upto_if 29 with (fail)
   go_cut [] (fun wx=>Hid (Calm w3 wx))
   case first=>
    cases tt with
    |false=>
     go_wp2_with fail
     go_meet
     case rel=>exact HC4.out.2
    |true=>
     have hcbt:cb=true:=by
      have h1:=HTT.out
      rw[Bool.and_eq_true,decide_eq_true_eq] at h1
      exact HCl.out h1.1 (by simpa using h1.2)
     subst hcbt
     go_wp2_with fail
     refine (KC.out w4 HC4.out.1.calm).mono ?_
     rintro e w5 ⟨rfl,hc5⟩
     have HC5:Hid (Calm w3 w5):=HC4.out.2.trans hc5
     clear hc5
     go_wp2_with fail
     go_meet
     case rel=>exact HC5.out
   case rest=>
    obtain⟨w5,rfl⟩:∃w5,w5=wc:=⟨_,rfl⟩
    have HC5:Hid (CmBox w w5 c w.heap.size (w.heap.size+1)∧Calm w3 w5):=⟨HB3.out.to hcut.out,hcut.out⟩
    have k0:=(HBk.out w5 HC5.out.2).at_ 0 _ rfl
    have lB:=(HBk.out w5 HC5.out.2).lt
    have a4:=HC5.out.1.c.at_ 4 _ rfl
    have l3:=HC5.out.1.c.lt
    clear hcut a1
    go_wp2_with fail
    refine (HCt.out w5 HC5.out.2 3).mono ?_
    rintro e w' ⟨rfl,rfl⟩
    go_upto_if 42 with (fail)
    go_cut [] (fun wx=>Hid (Calm w3 wx))
    case first=>
     by_cases h3:3∈fs
     ·rw[decide_eq_true h3]
      obtain⟨g,hg⟩:=HPg.out h3
      have KP3:=Lib.hid (KP.out h3)
      have HG:=Lib.hid hg
      clear hg KP HPg h3
      go_wp2_with fail
      refine (KP3.out w5 HC5.out.1.calm).mono ?_
      rintro e w6 ⟨rfl,hc6⟩
      have HC6:Hid (CmBox w w6 c w.heap.size (w.heap.size+1)∧Calm w3 w6):=⟨HC5.out.1.to hc6,HC5.out.2.trans hc6⟩
      clear hc6
      obtain⟨z7,g1,lS,lg,hpc⟩:=HG.out w6 HC6.out.1.calm
      have a1:=HC6.out.1.c.at_ 1 _ rfl
      have l3:=HC6.out.1.c.lt
      clear k0 lB a4
      go_wp2_with fail
      go_quiet (fail)
      go_wp2_with fail
      go_meet
      case rel=>exact HC6.out.2.drewN _
     ·rw[decide_eq_false h3]
      go_wp2_with fail
      go_meet
      case rel=>exact HC5.out.2
    case rest=>
     obtain⟨w6,rfl⟩:∃w6,w6=wc:=⟨_,rfl⟩
     have HC6:Hid (CmBox w w6 c w.heap.size (w.heap.size+1)∧Calm w3 w6):=⟨HB3.out.to hcut.out,hcut.out⟩
     have k1:=(HBk.out w6 HC6.out.2).at_ 1 _ rfl
     have lB:=(HBk.out w6 HC6.out.2).lt
     have hb:=HC6.out.1.c
     have a0:=hb.at_ 0 _ rfl
     have a1:=hb.at_ 1 _ rfl
     have a2:=hb.at_ 2 _ rfl
     have a3:=hb.at_ 3 _ rfl
     have a4:=hb.at_ 4 _ rfl
     have a5:=hb.at_ 5 _ rfl
     have a6:=hb.at_ 6 _ rfl
     have a7:=hb.at_ 7 _ rfl
     have a8:=hb.at_ 8 _ rfl
     have a9:=hb.at_ 9 _ rfl
     have a10:=hb.at_ 10 _ rfl
     have a11:=hb.at_ 11 _ rfl
     have a12:=hb.at_ 12 _ rfl
     have a13:=hb.at_ 13 _ rfl
     have l3:=hb.lt
     have hcall:=HF.out w6 HC6.out.1.calm
     clear hcut hb k0
     go_wp2_with (go_at_fn F;refine hcall.mono ?_;intro e w7 hq;obtain⟨r0,r1,r2,z,rfl,hk7,hR⟩:=HQ.out w6 e w7 (w.heap.size+1) HC6.out.1.calm (by omega) HC6.out.1.r.lt hq;have hr:=HC6.out.1.r.kp hk7 HO.out.2;have r0':=hr.at_ 0 _ rfl;have r1':=hr.at_ 1 _ rfl;have r2':=hr.at_ 2 _ rfl;have f0:=hr.fz 0;have f1:=hr.fz 1;have f2:=hr.fz 2;have lr:=hr.lt;have HR:=Lib.hid hR;clear hr hk7 hR hq)
     refine bodyPost_ret (v:=.tuple #[.agg #[.int .i64 r0,.int .i64 r1,.int .i64 r2],.int .i64 z]) ?_ rfl HR.out
     rw[results_cell_slot rfl]
     go_simp
end Go.Proofs.YtcofdlipapnohaaGreatDoor
