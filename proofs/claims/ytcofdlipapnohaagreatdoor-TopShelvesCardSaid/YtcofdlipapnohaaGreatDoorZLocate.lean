/- Walk: path.Under of "//view". -/
import Derived.Test.YtcofdlipapnohaaGreatDoorProg
import Derived.RangeFuncNested
import Derived.RangeFuncBound
import Derived.RangeFuncCalls
import Derived.RangeFuncLeaves
import Derived.RangeFuncFrom
import Derived.Shelf.Abstract
import Derived.OwnWalkIn
import Derived.TacticsInMore
import Derived.LoopNIn
import Derived.LoopIn
import Derived.Test.YtcofdlipapnohaaGreatDoorZSrvB
import Derived.Test.YtcofdlipapnohaaGreatDoorZNewS
import Derived.Test.YtcofdlipapnohaaGreatDoorZFwdP
import Derived.Test.YtcofdlipapnohaaGreatDoorZItself
import Derived.Test.YtcofdlipapnohaaGreatDoorZWalkY
import Derived.Test.YtcofdlipapnohaaGreatDoorZStrLaw
import Derived.Test.YtcofdlipapnohaaGreatDoorZStrCheck
set_option linter.unusedVariables false
set_option linter.unusedSimpArgs false
namespace Go.Proofs.YtcofdlipapnohaaGreatDoor
open Go Go.RowKit Go.Shelf Sy
attribute [local go_sem] Oper.semAt_some
def down (n k:Nat):List Nat:=(List.range k).map fun j=>n - 1 - j
theorem down_succ (n k:Nat):down n (k+1)=down n k++[n - 1 - k]:=by simp[down,List.range_succ]
theorem down_len (n k:Nat):(down n k).length=k:=by simp[down]
theorem mem_down {n k j:Nat} (hk:k≤n):j∈down n k↔n - k≤j∧j < n:=by
 simp only[down,List.mem_map,List.mem_range]
 constructor
 ·rintro⟨i,hi,rfl⟩;omega
 ·rintro⟨h1,h2⟩;exact⟨n - 1 - j,by omega,by omega⟩
def itemV (X:Nat→Line) (P:Nat→Pl) (j:Nat):Value:=.agg #[.int .i64 (X j).kind,.slice (P j).AL (X j).path.parts.length (P j).cl,.bool (X j).path.rest,.slice (P j).AR (X j).frm.parts.length (P j).cr,.bool (X j).frm.rest]
set_option maxRecDepth 100000 in
set_option maxHeartbeats 4000000 in
theorem back1_in (F:Fence) (m:Nat) (h7:F.fn 268) (hro:F.round=none) (hm:1≤m) (l Bs n₀ b off n cap:Nat) (A:Option Addr) (hA:0 < n→A=some ⟨b,off,none⟩) (X:Nat→Line) (P:Nat→Pl) (hreach:n≤2000000) (hb:0 < n→b < n₀) (J Jx:List Nat→World→Prop)
  (hY:∀pre x W,J pre W→pre.length < n→YieldAt F (m - 1) Tryz.prog l #[.int .i64 ((x:Nat):Int),itemV X P x] W fun e W'=>
   (e=.returned (.bool true)∧J (pre++[x]) W'∧Below n₀ W W')∨(e=.returned (.bool false)∧Jx (pre++[x]) W'))
  (W:World) (hBs:Bs < n₀) (hBc:W.cell? ⟨Bs,0,none⟩=some (.slice A n cap)) (hc:∀j,j < n→LineAt W b (off+j * 5) (P j) (X j)) (h0:J [] W) :
  CallsIn F m Tryz.prog 268 #[.func (.yield l) #[] #[],.pointer (some ⟨Bs,0,none⟩)] W fun e W'=>(∃v,e=.returned v) ∧
   ((∃ys,ys=down n n∧J ys W')∨(∃pre,(∃k,k≤n∧pre=down n k)∧Jx pre W')):=by
 refine callsIn_of_wp Tryz.func268 rfl h7 ?_ hro
 simp only[Tryz.ntmps268,List.size_toArray,List.length_cons,List.length_nil,Nat.reduceAdd,Nat.reduceSub,Array.replicate_succ,Array.replicate_zero,List.push_toArray,List.append_toArray,List.nil_append,List.cons_append]
 gi_wp2
 gi_loopw [3] (fun i wr=>∃k:Nat,k≤n∧i=.int .i64 ((n:Int) - 1 - k)∧J (down n k) wr∧Below n₀ W wr)
  (fun i _=>(intOf i+1).toNat)
 case atStart=>exact⟨0,Nat.zero_le _,by simp,h0,Below.refl _ _⟩
 case round=>
  obtain⟨k,hk,rfl,hJs,hnx⟩:=hrel
  have hBr:=(hnx.cell (p:=⟨Bs,0,none⟩) hBs).trans hBc
  by_cases hlt:k < n
  ·obtain rfl:=hA (by omega)
   have hb:=hb (by omega)
   have hat:=hc (n - 1 - k) (by omega)
   have hr:∀o,wr.cell? ⟨b,o,none⟩=W.cell? ⟨b,o,none⟩:=fun o=>hnx.cell (p:=⟨b,o,none⟩) hb
   obtain⟨j,hj⟩:∃j,n - 1 - k=j:=⟨_,rfl⟩
   have hji:((n:Int) - 1 - k)=(j:Nat):=by omega
   have hjn:j < n:=by omega
   obtain⟨fn,tmps,assign,body,hy,hR⟩:=hY _ j wr hJs (by rw[down_len];exact hlt)
   rw[hj] at hat
   have c0:=(hr _).trans hat.c0
   have c1:=(hr _).trans hat.c1
   have c2:=(hr _).trans hat.c2
   have c3:=(hr _).trans hat.c3
   have c4:=(hr _).trans hat.c4
   unfold itemV at hy
   rw[hji]
   have hds:J (down n k++[j])=J (down n (k+1)):=by rw[down_succ,hj]
   have hdx:Jx (down n k++[j])=Jx (down n (k+1)):=by rw[down_succ,hj]
   rw[hds,hdx] at hR
   clear hds hdx hY hc hat hr hji
   gi_wp2
   refine hR.mono ?_
   rintro e W3 (⟨rfl,hJ3,hk3⟩ | ⟨rfl,hJx3⟩)
   ·gi_wp2
    go_roundw
    case rel=>exact⟨k+1,by omega,by congr 1;omega,hJ3,hnx.trans hk3⟩
    case measure=>simp[intOf]
   ·gi_wp2
    refine bodyPost_ret (results_none rfl _ _ _) rfl ?_
    exact⟨⟨_,rfl⟩,.inr ⟨_,⟨k+1,by omega,rfl⟩,hJx3⟩⟩
  ·obtain rfl:k=n:=by omega
   have hneg:(k:Int) - 1 - k=-1:=by omega
   gi_wp2
   go_end0
   exact⟨⟨_,rfl⟩,.inl ⟨_,rfl,hJs⟩⟩
attribute [local go_sem] Oper.semAt_some
def Held (W:World) (B:Nat) (vs:Array Value) (t:TypeId):Prop:=W.heap[B]?=some (.cells vs t (0,0))
theorem Held.lt {W:World} {B:Nat} {vs:Array Value} {t:TypeId} (h:Held W B vs t):B < W.heap.size:=(Array.getElem?_eq_some_iff.1 h).1
theorem held_own {β:Type} (B:Nat) (vs:Array Value) (t:TypeId):Own (fun (_:β) W=>Held W B vs t):=fun s X Y row hs hg hrow=>
 (hg.block B (Held.lt hs) (fun e'=>by obtain⟨o,ho,hc⟩:=hrow B e'.symm;rw[show X.heap[B]?=_ from hs] at ho;cases ho;cases hc)).trans hs
theorem Held.calm {W W':World} {B:Nat} {vs:Array Value} {t:TypeId} (h:Held W B vs t) (hc:Calm W W'):Held W' B vs t:=(hc.block B h.lt).trans h
theorem Held.cell {W:World} {B:Nat} {vs:Array Value} {t:TypeId} (h:Held W B vs t) {i:Nat} {v:Value} (hv:vs[i]?=some v):W.cell? ⟨B,i,none⟩=some v:=by
 rw[cell_of_row W B i _ _ _ h]
 exact hv
theorem Held.frozen {W:World} {B:Nat} {vs:Array Value} {t:TypeId} (h:Held W B vs t) (i:Nat):W.frozen? ⟨B,i,none⟩=false:=by simp[World.frozen?,show W.heap[B]?=_ from h]
theorem Held.new (W:World) (vs:Array Value) (t:TypeId):Held (W.alloc (.cells vs t)) W.heap.size vs t:=World.alloc_heap_new W _
def itemA (X:Nat→Line) (P:Nat→Pl) (j:Nat):Array Value:=#[.int .i64 (X j).kind,.slice (P j).AL (X j).path.parts.length (P j).cl,.bool (X j).path.rest,.slice (P j).AR (X j).frm.parts.length (P j).cr,.bool (X j).frm.rest]
theorem item_cells {W:World} {B:Nat} {X:Nat→Line} {P:Nat→Pl} {j:Nat} {t:TypeId} (h:Held W B (itemA X P j) t):W.cell? ⟨B,0,none⟩=some (.int .i64 (X j).kind)∧W.cell? ⟨B,1,none⟩=some (.slice (P j).AL (X j).path.parts.length (P j).cl)∧W.cell? ⟨B,2,none⟩=some (.bool (X j).path.rest)∧W.cell? ⟨B,3,none⟩=some (.slice (P j).AR (X j).frm.parts.length (P j).cr)∧W.cell? ⟨B,4,none⟩=some (.bool (X j).frm.rest):=
 ⟨h.cell (i:=0) rfl,h.cell (i:=1) rfl,h.cell (i:=2) rfl,h.cell (i:=3) rfl,h.cell (i:=4) rfl⟩
theorem Held.set {W:World} {B:Nat} {vs:Array Value} {t:TypeId} (h:Held W B vs t) (i:Nat) (v:Value):Held (W.setCell ⟨B,i,none⟩ v) B (vs.setIfInBounds i v) t:=by
 unfold Held at *
 simp[World.setCell,Array.getElem?_modify,h]
theorem Held.other {W:World} {B B':Nat} {vs:Array Value} {t:TypeId} (h:Held W B vs t) (hne:B'≠B) (i:Nat) (v:Value):Held (W.setCell ⟨B',i,none⟩ v) B vs t:=by
 unfold Held at *
 simp[World.setCell,Array.getElem?_modify,h,hne]
theorem calm_others {W W':World} (hc:Calm W W'):KeepsOthers W W':=KeepsOthers.of_grownBy (row:=none) ⟨hc.os,hc.tape,hc.output,hc.size,fun k hk _=>hc.block k hk⟩ (fun j o e=>by cases e)
theorem back_c (A:Option Addr) (n c:Nat) (w:World):Calls Tryz.prog 248 #[.slice A n c] w fun e w'=>e=.returned (.func (.func 268) #[] #[.pointer (some ⟨w.heap.size,0,none⟩)])∧w'=w.alloc (.cells #[.slice A n c] 39):=by
 have hmf:∀(fn:Fn) (first cap:Array Value) (w:World),(Instr.makeFunc fn first cap).run Tryz.prog w=.ok (.func fn first cap) w:=fun _ _ _ _=>rfl
 go_enter Tryz.func248,Tryz.ntmps248
 go_wp2
 go_ret
 exact⟨rfl,rfl⟩
theorem results_cells2 {fn:Func} {p q:Tmp} {ty tz:TypeId} (h:fn.results=#[.cell p ty,.cell q tz]) (tmps:Array Value) (P:Program) (w:World) :
  (results fn tmps).run P w=((asAddr (tmps.getD p undef)).run P w).andThen fun a w₁=>((loadVar ty a).run P w₁).andThen fun v w₂=>((asAddr (tmps.getD q undef)).run P w₂).andThen fun b w₃=>((loadVar tz b).run P w₃).andThen fun u w₄=>.ok (.tuple #[v,u]) w₄:=by
 simp only[results,h]
 simp[Sem.run_bind,Result.andThen]
theorem back_stops (F:Fence) (m:Nat) (h7:F.fn 268) (hro:F.round=none) (hm:1≤m) (Bs n₀ b off n cap:Nat) (A:Option Addr) (hA:0 < n→A=some ⟨b,off,none⟩) (X:Nat→Line) (P:Nat→Pl) (hreach:n≤2000000) (hb:0 < n→b < n₀) (w:World) (hBs:Bs < n₀) (hn₀:n₀≤w.heap.size)
  (hBc:w.cell? ⟨Bs,0,none⟩=some (.slice A n cap)) (hc:∀j,j < n→LineAt w b (off+j * 5) (P j) (X j)) :
  SeqStopsK F m Tryz.prog 268 #[.pointer (some ⟨Bs,0,none⟩)] (fun x:Nat=>#[Value.int .i64 ((x:Nat):Int),itemV X P x]) (Below n₀) (fun ys=>ys=down n n) (fun pre=>∃k,k≤n∧pre=down n k) n w:=fun l J Jx W hW _ _ hY h0=>
 back1_in F m h7 hro hm l Bs n₀ b off n cap A hA X P hreach hb J Jx hY W hBs ((hW.cell (p:=⟨Bs,0,none⟩) (Nat.lt_of_lt_of_le hBs hn₀)).trans hBc) (fun j hj=>(hc j hj).calm hW (Nat.lt_of_lt_of_le (hb (by omega)) hn₀)) h0
set_option maxRecDepth 100000 in
set_option maxHeartbeats 4000000 in
theorem decide_pos (X:Nat→Line) (P:Nat→Pl) (s:Str) (b off n cap:Nat) (A:Option Addr) (hA:0 < n→A=some ⟨b,off,none⟩) (w:World) (hreach:n≤2000000) (hb:0 < n→b < w.heap.size) (hat:∀j,j < n→LineAt w b (off+j * 5) (P j) (X j))
  (hm:Hid (∀(W:World) (j:Nat) (y:Bool),Calm w W→matchS (X j).path s=y→Calls Tryz.prog 183 #[.agg #[.slice (P j).AL (X j).path.parts.length (P j).cl,.bool (X j).path.rest],.string (bs s)] W fun e w'=>∃A' n' c',e=.returned (.tuple #[.slice A' n' c',.bool y])∧Calm W w')) :
  Calls Tryz.prog 225 #[.slice A n cap,.string (bs s)] w fun e w'=>
   (((∃j,j < n∧matchS (X j).path s=true∧(∀i,j < i→i < n→matchS (X i).path s=false)∧e=.returned (.tuple #[itemV X P j,.bool true]))∨((∀i,i < n→matchS (X i).path s=false)∧e=.returned (.tuple #[.agg #[.int .i64 0,.slice none 0 0,.bool false,.slice none 0 0,.bool false],.bool false]))))∧Calm w w':=by
 refine (callsIn_wide (n:=9)).1 ?_
 refine callsIn_of_wp_marks Tryz.func225 rfl trivial ?_ rfl
 simp only[Tryz.ntmps225,List.size_toArray,List.length_cons,List.length_nil,Nat.reduceAdd,Nat.reduceSub,Array.replicate_succ,Array.replicate_zero,List.push_toArray,List.append_toArray,List.nil_append,List.cons_append]
 gi_wp2_with (refine⟨trivial,?_⟩;gi_at_call 248;refine (callsIn_wide.2 (back_c _ _ _ _)).mono ?_;rintro e w' ⟨rfl,rfl⟩)
 have hB0:Held (w.alloc (.cells #[.string (bs s)] 9)) w.heap.size #[.string (bs s)] 9:=Held.new _ _ _
 obtain⟨W0,hW0⟩:∃W0,(((w.alloc (.cells #[.string (bs s)] 9)).alloc (.cells #[.int .i64 0,.slice none 0 0,.bool false,.slice none 0 0,.bool false] 68)).alloc (.cells #[.bool false] 4)).alloc (.cells #[.slice A n cap] 39)=W0:=⟨_,rfl⟩
 have hC0:Calm w W0:=by rw[←hW0];exact ((((Calm.refl w).alloc _).alloc _).alloc _).alloc _
 have hsz:W0.heap.size=w.heap.size+4:=by rw[←hW0];simp
 have hS:Held W0 w.heap.size #[.string (bs s)] 9:=by rw[←hW0];exact hB0.calm ((((Calm.refl _).alloc _).alloc _).alloc _)
 have hL:Held W0 (w.heap.size+1) #[.int .i64 0,.slice none 0 0,.bool false,.slice none 0 0,.bool false] 68:=by
  rw[←hW0]
  have:=Held.new (w.alloc (.cells #[.string (bs s)] 9)) #[.int .i64 0,.slice none 0 0,.bool false,.slice none 0 0,.bool false] 68
  rw[World.size_alloc] at this
  exact this.calm (((Calm.refl _).alloc _).alloc _)
 have hR:Held W0 (w.heap.size+1+1) #[.bool false] 4:=by
  rw[←hW0]
  have:=Held.new ((w.alloc (.cells #[.string (bs s)] 9)).alloc (.cells #[.int .i64 0,.slice none 0 0,.bool false,.slice none 0 0,.bool false] 68)) #[.bool false] 4
  rw[World.size_alloc,World.size_alloc] at this
  exact this.calm ((Calm.refl _).alloc _)
 have hI:Held W0 (w.heap.size+1+1+1) #[.slice A n cap] 39:=by
  rw[←hW0]
  have:=Held.new (((w.alloc (.cells #[.string (bs s)] 9)).alloc (.cells #[.int .i64 0,.slice none 0 0,.bool false,.slice none 0 0,.bool false] 68)).alloc (.cells #[.bool false] 4)) #[.slice A n cap] 39
  rw[World.size_alloc,World.size_alloc,World.size_alloc] at this
  exact this
 rw[hW0]
 clear hW0 hB0
 refine wpIn_rangeFunc_ownH (α:=Nat) rfl (by omega) (gf:=268) (lb:=#[.pointer (some ⟨w.heap.size+1+1+1,0,none⟩)]) rfl trivial (enters_of Tryz.func268 (by kernel_rfl) rfl)
  (back_stops Fence.wide 8 trivial rfl (by omega) (w.heap.size+1+1+1) (w.heap.size+4) b off n cap A hA X P hreach (fun h=>by have:=hb h;omega) W0 (by omega) (by omega) (hI.cell rfl) (fun j hj=>(hat j hj).calm hC0 (hb (by omega)))) belowK_t (belowK_b (by omega)) (Below.refl _ _) (fun _=>rfl)
  (fun pre W=>(((Held W w.heap.size #[.string (bs s)] 9∧Held W (w.heap.size+1) #[.int .i64 0,.slice none 0 0,.bool false,.slice none 0 0,.bool false] 68)∧Held W (w.heap.size+1+1) #[.bool false] 4)∧Below w.heap.size w W)∧((∀x∈pre,matchS (X x).path s=false)∧w.heap.size+4≤W.heap.size))
  (fun c pre W=>c=.ret∧∃pre' x,pre=pre'++[x]∧(∀y∈pre',matchS (X y).path s=false)∧matchS (X x).path s=true∧Held W (w.heap.size+1) (itemA X P x) 68∧Held W (w.heap.size+1+1) #[.bool true] 4∧Below w.heap.size w W)
  (OwnFrom.and (OwnFrom.and (OwnFrom.and (OwnFrom.and (Own.from (held_own _ _ _) _) (Own.from (held_own _ _ _) _)) (Own.from (held_own _ _ _) _)) (ownFrom_below (Nat.le_refl _) (by omega))) (OwnFrom.and (fun _ _ _ _ hs _ _=>hs) (fun _ _ _ _ hs hg _=>Nat.le_trans hs hg.size)))
  (fun c pre A B row hs hg hr=>by
   obtain⟨h1,pre',x,h2,h3,h4,h5,h6,h7⟩:=hs
   exact⟨h1,pre',x,h2,h3,h4,held_own _ _ _ () A B row h5 hg (fun r e=>(hr r e).2),held_own _ _ _ () A B row h6 hg (fun r e=>(hr r e).2),h7.grown hg h7.size (fun k e=>by have:=(hr k e).1;omega)⟩)
  ⟨⟨⟨⟨hS,hL⟩,hR⟩,hC0⟩,(fun x hx=>by cases hx),by omega⟩
  (fun x a' W=>∃Bx,w.heap.size+4≤Bx∧Held W Bx (itemA X P x) 68∧a'={ tmps:=#[.slice A n cap,.string (bs s),undef,.pointer (some ⟨w.heap.size,0,none⟩),.pointer (some ⟨w.heap.size+1,0,none⟩),.pointer (some ⟨w.heap.size+1+1,0,none⟩),undef,.pointer (some ⟨Bx,0,none⟩),undef,undef,.slice A n cap,.func (.func 268) #[] #[.pointer (some ⟨w.heap.size+1+1+1,0,none⟩)],.int .i64 ((x:Nat):Int),itemV X P x,undef,undef,undef,undef,undef,undef,undef,undef,undef,undef],defers:=[] })
  (fun x a' _ U V row hs hg hr=>by obtain⟨Bx,h1,h2,h3⟩:=hs;exact⟨Bx,h1,held_own Bx _ _ () U V row h2 hg (fun r e=>(hr r e).2),h3⟩)
  ?assign ?body ?done ?stop
 case assign=>
  rintro l pre x W K ⟨⟨⟨⟨hS1,hL1⟩,hR1⟩,hC1⟩,hM1,hz1⟩ hK
  unfold itemV
  gi_wp2
  have hca:Calm W (W.alloc (.cells #[.int .i64 (X x).kind,.slice (P x).AL (X x).path.parts.length (P x).cl,.bool (X x).path.rest,.slice (P x).AR (X x).frm.parts.length (P x).cr,.bool (X x).frm.rest] 68)):=(Calm.refl W).alloc _
  exact hK _ _ ((KeepsOthers.alloc _ _).from _) ((Below.refl _ W).alloc hz1 _) ⟨⟨⟨⟨hS1.calm hca,hL1.calm hca⟩,hR1.calm hca⟩,hC1.trans ((Below.refl _ W).alloc hC1.size _)⟩,hM1,Nat.le_trans hz1 hca.size⟩ ⟨W.heap.size,hz1,Held.new _ _ _,rfl⟩
 case body=>
  rintro l pre x a' W hl ⟨r,hr⟩ ⟨⟨⟨⟨hS1,hL1⟩,hR1⟩,hC1⟩,hM1,hz1⟩ ⟨Bx,hBx,hX1,rfl⟩ hlt
  have cS:=hS1.cell (i:=0) rfl
  obtain⟨c0,c1,c2,c3,c4⟩:=item_cells hX1
  unfold itemV
  rcases hy:matchS (X x).path s with _ | _
  ·have K1:=hm.out W x false hC1 hy
   gi_wp2_with (refine⟨trivial,?_⟩;gi_at_call 183;refine (CallsIn.inRound l (callsIn_wide.2 K1)).mono ?_;rintro e w2 ⟨A2,n2,c2,rfl,hc2⟩)
   exact⟨(calm_others hc2).from _,hc2.mono hz1,⟨⟨⟨⟨hS1.calm hc2,hL1.calm hc2⟩,hR1.calm hc2⟩,hC1.trans (hc2.mono hC1.size)⟩,(fun y hy2=>by
    rcases List.mem_append.1 hy2 with h | h
    ·exact hM1 y h
    ·rw[List.mem_singleton] at h
     subst h
     exact hy),Nat.le_trans hz1 hc2.size⟩⟩
  ·have K1:=hm.out W x true hC1 hy
   gi_wp2_with (refine⟨trivial,?_⟩;gi_at_call 183;refine (CallsIn.inRound l (callsIn_wide.2 K1)).mono ?_;rintro e w2 ⟨A2,n2,c2,rfl,hc2⟩;have z0:=(hL1.calm hc2).cell (i:=0) rfl;have z1:=(hL1.calm hc2).cell (i:=1) rfl;have z2:=(hL1.calm hc2).cell (i:=2) rfl;have z3:=(hL1.calm hc2).cell (i:=3) rfl;have z4:=(hL1.calm hc2).cell (i:=4) rfl;have zf:=(hL1.calm hc2).frozen;have y0:=(hR1.calm hc2).cell (i:=0) rfl;have yf:=(hR1.calm hc2).frozen;obtain⟨d0,d1,d2,d3,d4⟩:=item_cells (hX1.calm hc2))
   have kL:=hL1.calm hc2
   have kR:=hR1.calm hc2
   have ko:=calm_others hc2
   have hcw:=hC1.trans (hc2.mono hC1.size)
   refine⟨KeepsOthers.from ?_ _,rfl,pre,x,rfl,hM1,hy,?_,?_,?_⟩
   ·exact (((((ko.trans (KeepsOthers.setCell _ _ _)).trans (KeepsOthers.setCell _ _ _)).trans (KeepsOthers.setCell _ _ _)).trans (KeepsOthers.setCell _ _ _)).trans (KeepsOthers.setCell _ _ _)).trans (KeepsOthers.setCell _ _ _)
   ·exact (((((kL.set 0 _).set 1 _).set 2 _).set 3 _).set 4 _).other (by omega) 0 _
   ·exact (((((kR.other (by omega) 0 _).other (by omega) 1 _).other (by omega) 2 _).other (by omega) 3 _).other (by omega) 4 _).set 0 _
   ·exact (((((hcw.setCell (p:=⟨w.heap.size+1,0,none⟩) (Nat.le_succ _) _).setCell (p:=⟨w.heap.size+1,1,none⟩) (Nat.le_succ _) _).setCell (p:=⟨w.heap.size+1,2,none⟩) (Nat.le_succ _) _).setCell (p:=⟨w.heap.size+1,3,none⟩) (Nat.le_succ _) _).setCell (p:=⟨w.heap.size+1,4,none⟩) (Nat.le_succ _) _).setCell (p:=⟨w.heap.size+1+1,0,none⟩) (Nat.le_trans (Nat.le_succ _) (Nat.le_succ _)) _
 case done=>
  rintro D ys W hD hys ⟨⟨⟨⟨hS1,hL1⟩,hR1⟩,hC1⟩,hM1,hz1⟩ hK
  have z0:=hL1.cell (i:=0) rfl
  have z1:=hL1.cell (i:=1) rfl
  have z2:=hL1.cell (i:=2) rfl
  have z3:=hL1.cell (i:=3) rfl
  have z4:=hL1.cell (i:=4) rfl
  have zf:=hL1.frozen
  have y0:=hR1.cell (i:=0) rfl
  have yf:=hR1.frozen
  gi_wp2
  have kL:=(((((hL1.set 0 (.int .i64 0)).set 1 (.slice none 0 0)).set 2 (.bool false)).set 3 (.slice none 0 0)).set 4 (.bool false)).other (B':=w.heap.size+1+1) (by omega) 0 (.bool false)
  have kR:=(((((hR1.other (B':=w.heap.size+1) (by omega) 0 (.int .i64 0)).other (B':=w.heap.size+1) (by omega) 1 (.slice none 0 0)).other (B':=w.heap.size+1) (by omega) 2 (.bool false)).other (B':=w.heap.size+1) (by omega) 3 (.slice none 0 0)).other (B':=w.heap.size+1) (by omega) 4 (.bool false)).set 0 (.bool false)
  obtain⟨W5,hW5⟩:∃W5,(((((((W.setCell ⟨w.heap.size+1,0,none⟩ (.int .i64 0)).setCell ⟨w.heap.size+1,1,none⟩ (.slice none 0 0)).setCell ⟨w.heap.size+1,2,none⟩ (.bool false)).setCell ⟨w.heap.size+1,3,none⟩ (.slice none 0 0)).setCell ⟨w.heap.size+1,4,none⟩ (.bool false)).setCell ⟨w.heap.size+1+1,0,none⟩ (.bool false)))=W5:=⟨_,rfl⟩
  have hkd:KeepsOthers W W5:=by
   have ko:=KeepsOthers.refl W
   rw[←hW5]
   exact (((((ko.trans (KeepsOthers.setCell _ _ _)).trans (KeepsOthers.setCell _ _ _)).trans (KeepsOthers.setCell _ _ _)).trans (KeepsOthers.setCell _ _ _)).trans (KeepsOthers.setCell _ _ _)).trans (KeepsOthers.setCell _ _ _)
  have hcd:Calm w W5:=by
   rw[←hW5]
   exact (((((hC1.setCell (p:=⟨w.heap.size+1,0,none⟩) (Nat.le_succ _) _).setCell (p:=⟨w.heap.size+1,1,none⟩) (Nat.le_succ _) _).setCell (p:=⟨w.heap.size+1,2,none⟩) (Nat.le_succ _) _).setCell (p:=⟨w.heap.size+1,3,none⟩) (Nat.le_succ _) _).setCell (p:=⟨w.heap.size+1,4,none⟩) (Nat.le_succ _) _).setCell (p:=⟨w.heap.size+1+1,0,none⟩) (Nat.le_trans (Nat.le_succ _) (Nat.le_succ _)) _
  rw[hW5] at kL kR ⊢
  clear hW5
  have hK5:=hkd.same D _ hK rfl
  have pL:=held_own (β:=Unit) _ _ _ () _ _ _ kL (grownBy_putObj' W5 D (.deferred none)) (fun r e=>by cases e;exact⟨_,hK5,rfl⟩)
  have pR:=held_own (β:=Unit) _ _ _ () _ _ _ kR (grownBy_putObj' W5 D (.deferred none)) (fun r e=>by cases e;exact⟨_,hK5,rfl⟩)
  have hcp:Calm w (W5.putObj D (.deferred none)):=Below.trans hcd (belowK_b (w:=w) (Nat.le_refl _) W5 D _ _ (by omega) hK5 rfl rfl)
  refine⟨by simp,.inl ⟨_,_,rfl,run_takeDeferred hK5,?_⟩⟩
  refine⟨.tuple #[.agg #[.int .i64 0,.slice none 0 0,.bool false,.slice none 0 0,.bool false],.bool false],?_,?_⟩
  ·rw[results_cells2 rfl]
   have z0:=pL.cell (i:=0) rfl
   have z1:=pL.cell (i:=1) rfl
   have z2:=pL.cell (i:=2) rfl
   have z3:=pL.cell (i:=3) rfl
   have z4:=pL.cell (i:=4) rfl
   have y0:=pR.cell (i:=0) rfl
   clear hS1 hL1 hR1 kL kR pL pR
   go_simp
  ·subst hys
   exact⟨.inr ⟨fun i hi=>hM1 i ((mem_down (Nat.le_refl n)).2 ⟨by omega,hi⟩),rfl⟩,hcp⟩
 case stop=>
  rintro D c pre W hD ⟨k,hk,hpre⟩ ⟨rfl,pre',x,h1,h2,h3,h4,h5,h6⟩ hK
  have hkx:∃k',k=k'+1∧x=n - 1 - k'∧pre'=down n k':=by
   match k with
   |0=>
    rw[h1] at hpre
    simp[down] at hpre
   |k'+1=>
    rw[h1,down_succ] at hpre
    obtain⟨e1,e2⟩:=List.append_inj' hpre rfl
    simp only[List.cons.injEq,and_true] at e2
    exact⟨k',rfl,e2,e1⟩
  obtain⟨k',rfl,rfl,rfl⟩:=hkx
  have pL:=held_own (β:=Unit) _ _ _ () _ _ _ h4 (grownBy_putObj' W D (.deferred none)) (fun r e=>by cases e;exact⟨_,hK,rfl⟩)
  have pR:=held_own (β:=Unit) _ _ _ () _ _ _ h5 (grownBy_putObj' W D (.deferred none)) (fun r e=>by cases e;exact⟨_,hK,rfl⟩)
  have hcp:Calm w (W.putObj D (.deferred none)):=Below.trans h6 (belowK_b (w:=w) (Nat.le_refl _) W D _ _ (by omega) hK rfl rfl)
  gi_wp2
  refine⟨by simp,.inl ⟨_,_,rfl,run_takeDeferred hK,?_⟩⟩
  refine⟨.tuple #[itemV X P (n - 1 - k'),.bool true],?_,?_⟩
  ·unfold itemV
   rw[results_cells2 rfl]
   obtain⟨z0,z1,z2,z3,z4⟩:=item_cells pL
   have y0:=pR.cell (i:=0) rfl
   clear h4 h5 pL pR
   go_simp
  ·exact⟨.inl ⟨n - 1 - k',by omega,h3,fun i hi1 hi2=>h2 i ((mem_down (by omega)).2 ⟨by omega,hi2⟩),rfl⟩,hcp⟩
theorem LinesU.items {w:World} {A:Option Addr} {ls:List Line} {n:Nat} (h:LinesU w A ls) (hn:ls.length=n) (h0:0 < n):∃(b o:Nat) (X:Nat→Line) (P:Nat→Pl),A=some ⟨b,o,none⟩∧b < w.heap.size∧(∀j,j < n→ls[j]?=some (X j))∧(∀j,j < n→LineAt w b (o+j * 5) (P j) (X j))∧(∀j,RuleU w (P j) (X j).rule∧X j∈ls):=by
 obtain⟨b,o,hA,hb,hk⟩:=h.at_ (by omega)
 have hex:∀j:Nat,∃y:Line × Pl,(j < n→ls[j]?=some y.1∧LineAt w b (o+j * 5) y.2 y.1)∧RuleU w y.2 y.1.rule∧y.1∈ls:=fun j=>by
  by_cases hj:j < n
  ·have hx:=List.getElem?_eq_getElem (show j < ls.length by omega)
   obtain⟨a,h1,h2⟩:=hk j _ hx
   exact⟨⟨_,a⟩,fun _=>⟨hx,h1⟩,h2,List.getElem_mem _⟩
  ·have hx:=List.getElem?_eq_getElem (show 0 < ls.length by omega)
   obtain⟨a,h1,h2⟩:=hk 0 _ hx
   exact⟨⟨_,a⟩,fun h=>absurd h hj,h2,List.getElem_mem _⟩
 exact⟨b,o,fun j=>(Classical.choose (hex j)).1,fun j=>(Classical.choose (hex j)).2,hA,hb,fun j hj=>((Classical.choose_spec (hex j)).1 hj).1,fun j hj=>((Classical.choose_spec (hex j)).1 hj).2,fun j=>(Classical.choose_spec (hex j)).2⟩
def decV (a:Pl):Option Line→Value
 |some x=>.tuple #[lineV a x,.bool true]
 |none=>.tuple #[.agg #[.int .i64 0,.slice none 0 0,.bool false,.slice none 0 0,.bool false],.bool false]
theorem pmatch_c (p:Pat) (s:Str) (y:Bool) (A:Option Addr) (c:Nat) (W:World) (hs:s.length≤10000) (hr:StrsR W A p.parts) (hpc:p.parts.length≤c) (hc47:c≤9223372036854775807) (hM:MaxL W) (hy:matchS p s=y) :
  Calls Tryz.prog 183 #[.agg #[.slice A p.parts.length c,.bool p.rest],.string (bs s)] W fun e w'=>∃A' n' c',e=.returned (.tuple #[.slice A' n' c',.bool y])∧Calm W w':=by
 refine (match_c p s A c W hs hr hpc hc47 hM).mono fun e w' ⟨h1,h2⟩=>?_
 rcases h1 with⟨h3,A',c',h4,_⟩ | ⟨h3,h4⟩
 ·rw[hy] at h3
  subst h3
  exact⟨_,_,_,h4,h2⟩
 ·rw[hy] at h3
  subst h3
  exact⟨_,_,_,h4,h2⟩
theorem decide_c (ls:List Line) (s:Str) (A:Option Addr) (n cap:Nat) (w:World) (hl:LinesU w A ls) (hn:ls.length=n) (hs:s.length≤10000) (hM:MaxL w) (hsm:∀x∈ls,SmallV x.rule) :
  Calls Tryz.prog 225 #[.slice A n cap,.string (bs s)] w fun e w'=>(∃a,e=.returned (decV a (decLine ls s))∧∀x,decLine ls s=some x→RuleU w a x.rule∧x∈ls)∧Calm w w':=by
 have hlen:=hl.len
 by_cases h0:0 < n
 ·obtain⟨b,o,X,P,hA,hb,hX,hat,hru⟩:=hl.items hn h0
  refine (decide_pos X P s b o n cap A (fun _=>hA) w (by omega) (fun _=>hb) hat (fun W j y hW hy=>pmatch_c (X j).path s y _ _ W hs (((hru j).1.left (hsm _ (hru j).2).small).calm hW) (hru j).1.lroom (hru j).1.lcap (hM.calm hW) hy)).mono fun e w' ⟨h1,h2⟩=>⟨?_,h2⟩
  rcases h1 with⟨j,hj,h3,h4,h5⟩ | ⟨h3,h4⟩
  ·have hd:decLine ls s=some (X j):=decLine_at (hX j hj) h3 (fun i y hi hy=>by
    have hin:i < n:=by rw[←hn];exact (List.getElem?_eq_some_iff.1 hy).1
    rw[hX i hin] at hy
    cases hy
    exact h4 i hi hin)
   refine⟨P j,by rw[hd];exact h5,fun x hx=>?_⟩
   rw[hd] at hx
   cases hx
   exact hru j
  ·have hd:decLine ls s=none:=decLine_nil (fun i y hy=>by
    have hin:i < n:=by rw[←hn];exact (List.getElem?_eq_some_iff.1 hy).1
    rw[hX i hin] at hy
    cases hy
    exact h3 i hin)
   exact⟨default,by rw[hd];exact h4,fun x hx=>by rw[hd] at hx;cases hx⟩
 ·obtain rfl:n=0:=by omega
  have hnil:ls=[]:=List.eq_nil_of_length_eq_zero hn
  subst hnil
  refine (decide_pos (fun _=>⟨0,⟨[],false⟩,⟨[],false⟩⟩) (fun _=>⟨none,0,none,0⟩) s 0 0 0 cap A (fun h=>absurd h (Nat.lt_irrefl _)) w (by omega) (fun h=>absurd h (Nat.lt_irrefl _)) (fun j hj=>absurd hj (Nat.not_lt_zero _)) (fun W j y hW hy=>pmatch_c ⟨[],false⟩ s y none 0 W hs ⟨by simp,(fun l hl=>by cases hl),(fun h=>absurd h (Nat.lt_irrefl _))⟩ (Nat.le_refl _) (by omega) (hM.calm hW) hy)).mono fun e w' ⟨h1,h2⟩=>⟨?_,h2⟩
  rcases h1 with⟨j,hj,_⟩ | ⟨h3,h4⟩
  ·exact absurd hj (Nat.not_lt_zero _)
  ·exact⟨default,h4,fun x hx=>by simp[decLine] at hx⟩
end Go.Proofs.YtcofdlipapnohaaGreatDoor
namespace Go.Proofs.YtcofdlipapnohaaGreatDoor
open Go Go.RowKit Sy
set_option maxHeartbeats 1000000 in
theorem comps1_c (w:World) (hM:MaxL w) :
  Calls Tryz.prog 222 #[.string ⟨#[47,47,118,105,101,119]⟩,.int .i64 1] w fun e w'=>e=.returned (.tuple #[.slice (some ⟨w.heap.size,0,none⟩) 1 1,.bool true])∧Calm w w'∧StrsG w' (some ⟨w.heap.size,0,none⟩) [viewN]:=by
 have hcut:Calls Tryz.prog 247 #[.string ⟨#[47,47,118,105,101,119]⟩,.string ⟨#[47,47]⟩] w fun e w'=>e=.returned (.tuple #[.string ⟨#[118,105,101,119]⟩,.bool true])∧w=w':=cut47_c [47,47,118,105,101,119] w
 have hsp:Calls Tryz.prog 242 #[.string ⟨#[118,105,101,119]⟩,.string ⟨#[47]⟩] w fun e w'=>e=.returned (.slice (some ⟨w.heap.size,0,none⟩) 1 1)∧Calm w w'∧StrsG w' (some ⟨w.heap.size,0,none⟩) [viewN]:=by
  have:=split_c viewN w (by decide) hM
  rw[show slash viewN=[viewN] by decide] at this
  exact this
 clear hM
 go_enter Tryz.func222,Tryz.ntmps222
 go_wp2_with (first | (go_at_call 247;refine hcut.mono ?_;rintro e w' ⟨rfl,rfl⟩) | (go_at_call 242;refine hsp.mono ?_;rintro e w2 ⟨rfl,hc2,hst2⟩))
 have HS:=Lib.hid hst2
 have HC:=Lib.hid hc2
 clear hst2 hc2 hsp hcut
 go_loop [26] (fun q=>∃k:Nat,k≤1∧q=.int .i64 k) (fun q=>1 - (intOf q).toNat)
 case atStart=>exact⟨0,Nat.zero_le _,rfl⟩
 case round=>
  obtain⟨k,hk,rfl⟩:=hrel
  by_cases hlt:k < 1
  ·obtain rfl:k=0:=by omega
   obtain⟨b,o,l,hA,hb,hl,hll,hcell⟩:=HS.out.get (k:=0) (by simp)
   obtain⟨rfl,rfl⟩:w.heap.size=b∧0=o:=by simpa using hA
   obtain rfl:viewN=l:=by simpa using hl
   clear hl hA hll
   rw[Nat.zero_add] at hcell
   go_wp2_with (go_at_call 132;refine (comp_v viewN true _ (by decide) (by decide)).mono ?_;rintro e w' ⟨rfl,rfl⟩)
   go_round
   case rel=>exact⟨1,by omega,by go_num⟩
   case measure=>simp[intOf]
  ·obtain rfl:k=1:=by omega
   go_wp2
   go_ret2
   exact⟨rfl,HC.out,HS.out⟩
def underE (c:Str):Value:=match pathOf c with
 |none=>.tuple #[.bool false,.int .i64 20]
 |some l=>.tuple #[.bool (l.getD 0 [] == viewN),.int .i64 0]
theorem underE_yes {c:Str} (h:underV c=true):underE c=.tuple #[.bool true,.int .i64 0]:=by
 unfold underV at h
 unfold underE
 rcases hc:pathOf c with _ | l
 ·rw[hc] at h;cases h
 ·rw[hc] at h
  simp only at h ⊢
  rw[h]
theorem underE_no {c:Str} (h:underV c=false):underE c=.tuple #[.bool false,.int .i64 20]∨underE c=.tuple #[.bool false,.int .i64 0]:=by
 unfold underV at h
 unfold underE
 rcases hc:pathOf c with _ | l
 ·exact .inl rfl
 ·rw[hc] at h
  simp only at h ⊢
  rw[h]
  exact .inr rfl
theorem path_len {c:Str} {l:List Str} (h:pathOf c=some l):l.length≤c.length+1:=by
 unfold pathOf pathParts at h
 split at h
 ·rename_i m hm
  split at hm
  ·simp only[Option.some.injEq] at hm
   split at h
   ·simp only[Option.some.injEq] at h
    have:=slash_len (c.drop 2)
    rw[hm,List.length_drop] at this
    rw[←h]
    omega
   ·cases h
  ·cases hm
 ·cases h
set_option maxHeartbeats 1000000 in
theorem under_c (c:Str) (w:World) (hc:c.length≤10000) (hM:MaxL w) :
  Calls Tryz.prog 184 #[.string ⟨#[47,47,118,105,101,119]⟩,.string (bs c)] w fun e w'=>e=.returned (underE c)∧Calm w w':=by
 have h1:=comps1_c w hM
 unfold underE
 rcases hp:pathOf c with _ | l
 ·have h2:Hid (∀W,Calm w W→Calls Tryz.prog 223 #[.string (bs c)] W fun e w'=>e=.returned (.tuple #[.slice none 0 0,.int .i64 20])∧Calm W w'):=fun W hW=>psplit_no c W (by omega) (hM.calm hW) hp
  clear hM hp
  go_enter Tryz.func184,Tryz.ntmps184
  go_wp2_with (first | (go_at_call 222;refine h1.mono ?_;rintro e w1 ⟨rfl,hc1,_⟩) | (go_at_call 223;refine (h2.out w1 hc1).mono ?_;rintro e w2 ⟨rfl,hc2⟩))
  go_ret2
  exact⟨rfl,hc1.trans hc2⟩
 ·have h2:Hid (∀W,Calm w W→Calls Tryz.prog 223 #[.string (bs c)] W fun e w'=>e=.returned (.tuple #[.slice (some ⟨W.heap.size,0,none⟩) l.length l.length,.int .i64 0])∧Calm W w'∧StrsG w' (some ⟨W.heap.size,0,none⟩) l):=fun W hW=>psplit_yes c l W (by omega) (hM.calm hW) hp
  have hl2:=(pathOf_some hp).1
  obtain⟨n,hn⟩:∃n,l.length=n:=⟨_,rfl⟩
  have hnb:n≤3000000:=by
   have:=path_len hp
   omega
  have hv:Hid ((l.map bs).take 1=[bs viewN].take 1↔(l.getD 0 [] == viewN)=true):=by
   show _↔_
   match l,hl2 with
   |a :: b :: r,_=>
    simp only[List.map_cons,List.take_succ_cons,List.take_zero,List.getD_cons_zero,List.cons.injEq,and_true,beq_iff_eq]
    constructor
    ·intro h
     have:=congrArg ByteArray.toList h
     rwa [bs_toL,bs_toL] at this
    ·intro h;rw[h]
  rw[hn] at hl2 h2
  have HN:=Lib.hid hn
  clear hM hp hn
  go_enter Tryz.func184,Tryz.ntmps184
  go_wp2_with (first
   |(go_at_call 222;refine h1.mono ?_;rintro e w1 ⟨rfl,hc1,hs1⟩;have HS1:=Lib.hid hs1;clear hs1)
   |(go_at_call 223;refine (h2.out w1 hc1).mono ?_;rintro e w2 ⟨rfl,hc2,hs2⟩;have HS2:=Lib.hid hs2;clear hs2)
   |(go_at_call 224;refine (Tryz.slices_Equal_string w1.heap.size 0 1 n w.heap.size 0 1 1 (l.map bs) [bs viewN] w2 (by rw[List.length_map,HN.out];omega) (by simp) (by omega) (by omega) ?_ ?_).mono ?_))
  ·intro j hj
   rw[List.length_map] at hj
   have hs:=HS2.out
   obtain⟨b,o,y,hA,hb,hy,_,hcell⟩:=hs.get hj
   obtain⟨rfl,rfl⟩:w1.heap.size=b∧0=o:=by simpa using hA
   rw[hcell]
   simp[List.getD_eq_getElem?_getD,hy]
  ·intro j hj
   have hs:=HS1.out.calm hc2
   have hj0:j=0:=by simpa using hj
   subst hj0
   obtain⟨b,o,y,hA,hb,hy,_,hcell⟩:=hs.get (k:=0) (by simp)
   obtain⟨rfl,rfl⟩:w.heap.size=b∧0=o:=by simpa using hA
   obtain rfl:viewN=y:=by simpa using hy
   rw[hcell]
   rfl
  ·rintro e w3 ⟨rfl,q,rfl⟩
   go_wp2
   go_ret2
   refine⟨?_,(hc1.trans hc2).drewN q⟩
   show Ending.returned (.tuple #[.bool (decide ((l.map bs).take 1=[bs viewN].take 1)),.int .i64 0])=_
   rw[show decide ((l.map bs).take 1=[bs viewN].take 1)=(l.getD 0 [] == viewN) by rw[Bool.eq_iff_iff,decide_eq_true_iff];exact hv.out]
theorem bs_dropk (p:Str) (k n:Nat) (hn:n=p.length):(bs p).extract k n=bs (p.drop k):=by
 subst hn
 apply ByteArray.ext
 simp only[bs,ByteArray.data_extract]
 apply Array.ext'
 simp only[Array.toList_extract,List.extract_eq_take_drop]
 exact List.take_of_length_le (by simp)
theorem ownKind_c (a b:Int) (w:World):Calls Tryz.prog 211 #[.int .i64 a,.int .i64 b] w fun e w'=>e=.returned (.int .i64 (if a=1∧b=1 then 1 else 2))∧w=w':=by
 by_cases h1:a=1
 ·by_cases h2:b=1
  ·subst h1 h2
   go_enter Tryz.func211,Tryz.ntmps211
   go_wp2
   go_ret
   exact⟨rfl,rfl⟩
  ·subst h1
   have hb:(b == 1)=false:=by simpa using h2
   go_enter Tryz.func211,Tryz.ntmps211
   go_wp2
   go_ret
   exact⟨ret_int (by simp[h2]),rfl⟩
 ·have hb:(a == 1)=false:=by simpa using h1
  go_enter Tryz.func211,Tryz.ntmps211
  go_wp2
  go_ret
  exact⟨ret_int (by simp[h1]),rfl⟩
theorem seeStep_none {s:Strm} {c:Str} {u:Int × Str} (h:decLine s.paths c=none):seeStep s c u=(0,[]):=by simp[seeStep,h]
theorem seeStep_excl {s:Strm} {c:Str} {u:Int × Str} {x:Line} (h:decLine s.paths c=some x) (h4:x.kind=4):seeStep s c u=(0,[]):=by simp[seeStep,h,h4]
theorem seeStep_up {s:Strm} {c:Str} {u:Int × Str} {x:Line} (h:decLine s.paths c=some x) (h4:x.kind≠4) (hu:u.1=3):seeStep s c u=u:=by simp[seeStep,h,h4,hu]
theorem seeStep_imp {s:Strm} {c:Str} {u:Int × Str} {x:Line} (h:decLine s.paths c=some x) (hk:x.kind=3) (h0:u.1≠0) (hu:u.1≠3):seeStep s c u=(3,(fwd x.rule c).getD []):=by simp[seeStep,h,hk,h0,hu]
theorem seeStep_own {s:Strm} {c:Str} {u:Int × Str} {x:Line} (h:decLine s.paths c=some x) (hk:x.kind≠3) (h4:x.kind≠4) (h0:u.1≠0) (hu:u.1≠3):seeStep s c u=(if x.kind=1∧u.1=1 then 1 else 2,47 :: 47 :: s.name++c.drop 6):=by simp[seeStep,h,hk,h4,h0,hu]
set_option maxRecDepth 100000 in
set_option maxHeartbeats 8000000 in
theorem see_step (ss:List Strm) (F:Nat) (A:Option Addr) (n c i:Nat) (s:Str) (po:Option Nat) (u:Int × Str) (w:World) (hf:ForestAt w F A n c ss) (hi:i < n) (hpo:parentI ss i=po) (hs:s.length≤10000) (h6:6≤s.length) (hnm24:(strm ss i).name.length≤24) (hM:MaxL w)
  (hsm:∀x∈(strm ss i).paths,SmallV x.rule) (hu0:po=none→u=(1,[])) (KU:Hid (∀W p,Calm w W→po=some p→Calls Tryz.prog 185 #[.pointer (some ⟨F,0,none⟩),.int .i64 p,.string (bs s)] W fun e w'=>e=.returned (.tuple #[.int .i64 u.1,.string (bs u.2)])∧Calm W w')) :
  Calls Tryz.prog 185 #[.pointer (some ⟨F,0,none⟩),.int .i64 i,.string (bs s)] w fun e w'=>e=.returned (.tuple #[.int .i64 (seeStep (strm ss i) s u).1,.string (bs (seeStep (strm ss i) s u).2)])∧Calm w w':=by
 have hn:=hf.hn
 have hlen:=hf.strms.len
 rw[hn] at hlen
 have HF:=Lib.hid hf
 obtain⟨b,o,t,PA,pc,rfl,hb,hr,hat,hsu⟩:=hf.strms.get (k:=i) (by rw[hn];exact hi)
 have hlt:=hf.lt
 have f0:=hf.c0
 have c0:=hat.c0
 have c1:=hat.c1
 have c2:=hat.c2
 have ht:=strm_at hr
 rw[ht] at hnm24 hsm ⊢
 obtain⟨nm,hnm⟩:∃nm,t.name=nm:=⟨_,rfl⟩
 obtain⟨pa,hpa⟩:∃pa,t.parent=pa:=⟨_,rfl⟩
 obtain⟨np,hnp⟩:∃np,t.paths.length=np:=⟨_,rfl⟩
 rw[hnm] at c0 hnm24
 rw[hpa] at c1
 rw[hnp] at c2
 obtain⟨w1,hw1⟩:∃w1,w1=w.alloc (.cells #[.string (bs nm),.string (bs pa),.slice PA np pc] 41):=⟨_,rfl⟩
 have hc1:Calm w w1:=by rw[hw1];exact (Calm.refl w).alloc _
 have hbox:BoxS w1 w.heap.size nm pa PA np pc:=by rw[hw1];exact BoxS.new w nm pa PA np pc
 have KP:Hid (∀W,Calm w1 W→Calls Tryz.prog 165 #[.pointer (some ⟨F,0,none⟩),.int .i64 i] W fun e w'=>e=.returned (parV po)∧Calm W w'):=fun W hW=>by
  rw[←hpo]
  exact parent_c ss F _ n c i W ((HF.out.calm hc1).calm hW) hi
 unfold parV at KP
 have KD0:Hid (∀W,Calm w1 W→Calls Tryz.prog 225 #[.slice PA np pc,.string (bs s)] W fun e w'=>(∃a,e=.returned (decV a (decLine t.paths s))∧∀x,decLine t.paths s=some x→RuleU w' a x.rule∧x∈t.paths)∧Calm W w'):=fun W hW=>by
  refine (decide_c t.paths s PA np pc W ((hsu.lines.calm hc1).calm hW) hnp hs ((hM.calm hc1).calm hW) hsm).mono fun e w' ⟨⟨a,h1,h2⟩,h3⟩=>⟨⟨a,h1,fun x hx=>⟨?_,(h2 x hx).2⟩⟩,h3⟩
  exact ((h2 x hx).1).calm h3
 have HW:=Lib.hid hw1
 have HC:=Lib.hid hc1
 have HB:=Lib.hid hbox
 have HNm:=Lib.hid hnm
 have HM:=Lib.hid hM
 have HSm:=Lib.hid hsm
 obtain⟨u1,u2⟩:=u
 simp only at KU
 have KU1:Hid (∀W p,Calm w1 W→po=some p→Calls Tryz.prog 185 #[.pointer (some ⟨F,0,none⟩),.int .i64 p,.string (bs s)] W fun e w'=>e=.returned (.tuple #[.int .i64 u1,.string (bs u2)])∧Calm W w'):=fun W p hW hp=>KU.out W p (HC.out.trans hW) hp
 have b2:=hbox.c2
 have hbl:=hbox.lt
 have hss:=bs_size s
 clear ht hnm hpa hnp hat hsu hr hf hn hw1 hc1 hbox hM hsm KU hpo
 cases po with
 |none=>
  obtain⟨rfl,rfl⟩:u1=1∧u2=[]:=by have:=hu0 rfl;simpa using this
  simp only[Option.getD_none,Option.isSome_none] at KP
  clear hu0
  obtain⟨dl,hdl⟩:∃dl,decLine t.paths s=dl:=⟨_,rfl⟩
  rw[hdl] at KD0
  have HDl:=Lib.hid hdl
  clear hdl
  cases dl with
  |none=>
   have KD:Hid (∀W,Calm w1 W→Calls Tryz.prog 225 #[.slice PA np pc,.string (bs s)] W fun e w'=>e=.returned (.tuple #[.agg #[.int .i64 0,.slice none 0 0,.bool false,.slice none 0 0,.bool false],.bool false])∧Calm W w'):=fun W hW=>(KD0.out W hW).mono fun e w' ⟨⟨a,h1,_⟩,h2⟩=>⟨h1,h2⟩
   have hE:Hid (seeStep t s (1,[])=(0,[])):=seeStep_none HDl.out
   clear KD0
   go_enter Tryz.func185,Tryz.ntmps185
   go_wp2_with (first
    |(go_at_call 165;rw[←HW.out];refine (KP.out _ (Calm.refl _)).mono ?_;rintro e w2 ⟨rfl,hc2⟩;have g0:=(HB.out.calm hc2).c2)
    |(go_at_call 225;refine (KD.out w2 hc2).mono ?_;rintro e w4 ⟨rfl,hc4⟩))
   go_ret2
   exact⟨by rw[hE.out];rfl,HC.out.trans (hc2.trans (hc4.alloc _))⟩
  |some x=>
   obtain⟨κ,h0⟩:∃κ,x.kind=κ:=⟨_,rfl⟩
   obtain⟨npp,h1⟩:∃npp,x.path.parts.length=npp:=⟨_,rfl⟩
   obtain⟨nf,h2⟩:∃nf,x.frm.parts.length=nf:=⟨_,rfl⟩
   obtain⟨rp,h3⟩:∃rp,x.path.rest=rp:=⟨_,rfl⟩
   obtain⟨rf,h4⟩:∃rf,x.frm.rest=rf:=⟨_,rfl⟩
   have KD:Hid (∀W,Calm w1 W→Calls Tryz.prog 225 #[.slice PA np pc,.string (bs s)] W fun e w'=>(∃a:Pl,e=.returned (.tuple #[.agg #[.int .i64 κ,.slice a.AL npp a.cl,.bool rp,.slice a.AR nf a.cr,.bool rf],.bool true])∧RuleU w' a x.rule∧x∈t.paths)∧Calm W w'):=fun W hW=>(KD0.out W hW).mono fun e w' ⟨⟨a,g1,g2⟩,g3⟩=>⟨⟨a,by rw[←h0,←h1,←h2,←h3,←h4];exact g1,g2 x rfl⟩,g3⟩
   have HX:=Lib.hid (And.intro h0 (And.intro h1 (And.intro h2 (And.intro h3 h4))))
   clear KD0 h0 h1 h2 h3 h4
   go_enter Tryz.func185,Tryz.ntmps185
   by_cases hk4:κ=4
   ·subst hk4
    have hE:Hid (seeStep t s ((1:Int),[])=(0,[])):=seeStep_excl HDl.out HX.out.1
    go_wp2_with (first
     |(go_at_call 165;rw[←HW.out];refine (KP.out _ (Calm.refl _)).mono ?_;rintro e w2 ⟨rfl,hc2⟩;have g0:=(HB.out.calm hc2).c2)
     |(go_at_call 225;refine (KD.out w2 hc2).mono ?_;rintro e w4 ⟨⟨a,rfl,hru⟩,hc4⟩;have HRU:=Lib.hid hru;clear hru))
    go_ret2
    exact⟨by rw[hE.out];rfl,HC.out.trans (hc2.trans (hc4.alloc _))⟩
   ·have hkb4:(κ == 4)=false:=by simpa using hk4
    by_cases hk3:κ=3
    ·subst hk3
     have hE:Hid (seeStep t s ((1:Int),[])=(3,(fwd x.rule s).getD [])):=seeStep_imp HDl.out HX.out.1 (by decide) (by decide)
     obtain⟨fo,hfo⟩:∃fo,fwd x.rule s=fo:=⟨_,rfl⟩
     rw[hfo] at hE
     have KF:∀(a:Pl) {W4:World} (W:World),RuleU W4 a x.rule∧x∈t.paths→Calm w1 W→Calm W4 W→Calls Tryz.prog 136 #[.agg #[.bool false,.slice a.AL npp a.cl,.bool rp,.slice a.AR nf a.cr,.bool rf],.string (bs s)] W fun e w'=>e=.returned (.tuple #[.string (bs (fo.getD [])),.bool fo.isSome])∧Calm W w':=fun a W4 W hru hW hW4=>by
      have:=fwd_c x.rule a s W (hru.1.calm hW4) (HSm.out x hru.2) hs ((HM.out.calm HC.out).calm hW)
      unfold fwdV ruleV at this
      rw[hfo,show x.rule.left.parts.length=npp from HX.out.2.1,show x.rule.right.parts.length=nf from HX.out.2.2.1,show x.rule.left.rest=rp from HX.out.2.2.2.1,show x.rule.right.rest=rf from HX.out.2.2.2.2] at this
      exact this
     clear hfo
     go_wp2_with (first
      |(go_at_call 165;rw[←HW.out];refine (KP.out _ (Calm.refl _)).mono ?_;rintro e w2 ⟨rfl,hc2⟩;have g0:=(HB.out.calm hc2).c2)
      |(go_at_call 225;refine (KD.out w2 hc2).mono ?_;rintro e w4 ⟨⟨a,rfl,hru⟩,hc4⟩;have HRU:=Lib.hid hru;clear hru)
      |(go_at_call 198;refine (imported_c a 3 npp nf rp rf _).mono ?_;rintro e w6 ⟨rfl,hc6⟩;have q0:=(BoxL.new w4 a 3 npp nf rp rf).c0;have r0:=((BoxL.new w4 a 3 npp nf rp rf).calm hc6).c0)
      |(go_at_call 136;refine (KF a w6 HRU.out (hc2.trans (hc4.trans (((Calm.refl w4).alloc _).trans hc6))) (((Calm.refl w4).alloc _).trans hc6)).mono ?_;rintro e w7 ⟨rfl,hc7⟩;have r1:=(((BoxL.new w4 a 3 npp nf rp rf).calm hc6).calm hc7).c0))
     go_ret2
     exact⟨by rw[hE.out];rfl,HC.out.trans (hc2.trans (((hc4.alloc _).trans hc6).trans hc7))⟩
    ·have hkb3:(κ == 3)=false:=by simpa using hk3
     have hE:Hid (seeStep t s ((1:Int),[])=(if κ=1∧(1:Int)=1 then 1 else 2,47 :: 47 :: t.name++s.drop 6)):=by have:=seeStep_own (u:=((1:Int),[])) HDl.out (by rw[HX.out.1];exact hk3) (by rw[HX.out.1];exact hk4) (by decide) (by decide);rw[HX.out.1] at this;exact this
     obtain⟨kk,hkk⟩:∃kk:Int,(if κ=1∧(1:Int)=1 then 1 else 2)=kk:=⟨_,rfl⟩
     have K0:Hid (∀W,Calls Tryz.prog 211 #[.int .i64 κ,.int .i64 1] W fun e w'=>e=.returned (.int .i64 kk)∧W=w'):=fun W=>by
      have:=ownKind_c κ 1 W
      rw[hkk] at this
      exact this
     rw[hkk] at hE
     clear hkk
     go_wp2_with (first
      |(go_at_call 165;rw[←HW.out];refine (KP.out _ (Calm.refl _)).mono ?_;rintro e w2 ⟨rfl,hc2⟩;have g0:=(HB.out.calm hc2).c2)
      |(go_at_call 225;refine (KD.out w2 hc2).mono ?_;rintro e w4 ⟨⟨a,rfl,hru⟩,hc4⟩;have HRU:=Lib.hid hru;clear hru))
     obtain⟨w5,hw5⟩:∃w5,w5=w4.alloc (.cells #[.int .i64 κ,.slice a.AL npp a.cl,.bool rp,.slice a.AR nf a.cr,.bool rf] 68):=⟨_,rfl⟩
     have hc5:Calm w4 w5:=by rw[hw5];exact (Calm.refl w4).alloc _
     have hb5:BoxL w5 w4.heap.size a κ npp nf rp rf:=by rw[hw5];exact BoxL.new w4 a κ npp nf rp rf
     rw[←hw5]
     have hbs5:=HB.out.calm (hc2.trans (hc4.trans hc5))
     have K1:=fun p:CalmTo w5=>K0.out p.w
     have e0:=fun p:CalmTo w5=>p.cell hb5.c0 hb5.lt
     have e1:=fun p:CalmTo w5=>p.cell hbs5.c0 hbs5.lt
     have hcc:Calm w1 w5:=hc2.trans (hc4.trans hc5)
     have hns:=bs_size nm
     have hx1:(⟨#[47,47]⟩:ByteArray).size=2:=rfl
     clear hw5 hb5 hbs5 hc5 hc4
     refine wp_region_calm (by kernel_rfl) (by kernel_rfl) ?_
     repeat (go_big_quiet_step ((go_at_call 211;exact calmOfL (K1 _))))
     refine wpQuiet_nil ?_
     intro w7 hc7
     go_wp2
     go_ret2
     refine⟨?_,HC.out.trans (hcc.trans hc7)⟩
     show Ending.returned (.tuple #[.int .i64 kk,.string (⟨#[47,47]⟩++bs nm++(bs s).extract 6 s.length)])=_
     rw[hE.out,HNm.out,bs_dropk s 6 _ rfl,bs_append,show bs (47 :: 47 :: nm)=⟨#[47,47]⟩++bs nm from bs_append [47,47] nm]
 |some p=>
  simp only[Option.getD_some,Option.isSome_some] at KP
  clear hu0
  obtain⟨dl,hdl⟩:∃dl,decLine t.paths s=dl:=⟨_,rfl⟩
  rw[hdl] at KD0
  have HDl:=Lib.hid hdl
  clear hdl
  cases dl with
  |none=>
   have KD:Hid (∀W,Calm w1 W→Calls Tryz.prog 225 #[.slice PA np pc,.string (bs s)] W fun e w'=>e=.returned (.tuple #[.agg #[.int .i64 0,.slice none 0 0,.bool false,.slice none 0 0,.bool false],.bool false])∧Calm W w'):=fun W hW=>(KD0.out W hW).mono fun e w' ⟨⟨a,h1,_⟩,h2⟩=>⟨h1,h2⟩
   have hE:Hid (seeStep t s (u1,u2)=(0,[])):=seeStep_none HDl.out
   clear KD0
   have hub:u1=0∨(u1 == 0)=false:=by by_cases h:u1=0;exact .inl h;exact .inr (by simpa using h)
   go_enter Tryz.func185,Tryz.ntmps185
   rcases hub with rfl | hub
   all_goals
    go_wp2_with (first
     |(go_at_call 165;rw[←HW.out];refine (KP.out _ (Calm.refl _)).mono ?_;rintro e w2 ⟨rfl,hc2⟩;have g0:=(HB.out.calm hc2).c2)
     |(go_at_call 185;refine (KU1.out w2 p hc2 rfl).mono ?_;rintro e w3 ⟨rfl,hc3⟩;have g1:=(HB.out.calm (hc2.trans hc3)).c2)
     |(go_at_call 225;refine (KD.out w3 (hc2.trans hc3)).mono ?_;rintro e w4 ⟨rfl,hc4⟩))
    go_ret2
    exact⟨by rw[hE.out];rfl,HC.out.trans ((hc2.trans hc3).trans (hc4.alloc _))⟩
  |some x=>
   obtain⟨κ,h0⟩:∃κ,x.kind=κ:=⟨_,rfl⟩
   obtain⟨npp,h1⟩:∃npp,x.path.parts.length=npp:=⟨_,rfl⟩
   obtain⟨nf,h2⟩:∃nf,x.frm.parts.length=nf:=⟨_,rfl⟩
   obtain⟨rp,h3⟩:∃rp,x.path.rest=rp:=⟨_,rfl⟩
   obtain⟨rf,h4⟩:∃rf,x.frm.rest=rf:=⟨_,rfl⟩
   have KD:Hid (∀W,Calm w1 W→Calls Tryz.prog 225 #[.slice PA np pc,.string (bs s)] W fun e w'=>(∃a:Pl,e=.returned (.tuple #[.agg #[.int .i64 κ,.slice a.AL npp a.cl,.bool rp,.slice a.AR nf a.cr,.bool rf],.bool true])∧RuleU w' a x.rule∧x∈t.paths)∧Calm W w'):=fun W hW=>(KD0.out W hW).mono fun e w' ⟨⟨a,g1,g2⟩,g3⟩=>⟨⟨a,by rw[←h0,←h1,←h2,←h3,←h4];exact g1,g2 x rfl⟩,g3⟩
   have HX:=Lib.hid (And.intro h0 (And.intro h1 (And.intro h2 (And.intro h3 h4))))
   clear KD0 h0 h1 h2 h3 h4
   go_enter Tryz.func185,Tryz.ntmps185
   by_cases hu:u1=0
   ·subst hu
    have hE:Hid (seeStep t s ((0:Int),u2)=(0,[])):=seeStep_zero _ _ _ rfl
    go_wp2_with (first
     |(go_at_call 165;rw[←HW.out];refine (KP.out _ (Calm.refl _)).mono ?_;rintro e w2 ⟨rfl,hc2⟩;have g0:=(HB.out.calm hc2).c2)
     |(go_at_call 185;refine (KU1.out w2 p hc2 rfl).mono ?_;rintro e w3 ⟨rfl,hc3⟩;have g1:=(HB.out.calm (hc2.trans hc3)).c2)
     |(go_at_call 225;refine (KD.out w3 (hc2.trans hc3)).mono ?_;rintro e w4 ⟨⟨a,rfl,hru⟩,hc4⟩;have HRU:=Lib.hid hru;clear hru))
    go_ret2
    exact⟨by rw[hE.out];rfl,HC.out.trans ((hc2.trans hc3).trans (hc4.alloc _))⟩
   ·have hub:(u1 == 0)=false:=by simpa using hu
    by_cases hk4:κ=4
    ·subst hk4
     have hE:Hid (seeStep t s (u1,u2)=(0,[])):=seeStep_excl HDl.out HX.out.1
     go_wp2_with (first
      |(go_at_call 165;rw[←HW.out];refine (KP.out _ (Calm.refl _)).mono ?_;rintro e w2 ⟨rfl,hc2⟩;have g0:=(HB.out.calm hc2).c2)
      |(go_at_call 185;refine (KU1.out w2 p hc2 rfl).mono ?_;rintro e w3 ⟨rfl,hc3⟩;have g1:=(HB.out.calm (hc2.trans hc3)).c2)
      |(go_at_call 225;refine (KD.out w3 (hc2.trans hc3)).mono ?_;rintro e w4 ⟨⟨a,rfl,hru⟩,hc4⟩;have HRU:=Lib.hid hru;clear hru))
     go_ret2
     exact⟨by rw[hE.out];rfl,HC.out.trans ((hc2.trans hc3).trans (hc4.alloc _))⟩
    ·have hkb4:(κ == 4)=false:=by simpa using hk4
     by_cases hu3:u1=3
     ·have hE:Hid (seeStep t s (u1,u2)=(u1,u2)):=seeStep_up HDl.out (by rw[HX.out.1];exact hk4) hu3
      subst hu3
      go_wp2_with (first
       |(go_at_call 165;rw[←HW.out];refine (KP.out _ (Calm.refl _)).mono ?_;rintro e w2 ⟨rfl,hc2⟩;have g0:=(HB.out.calm hc2).c2)
       |(go_at_call 185;refine (KU1.out w2 p hc2 rfl).mono ?_;rintro e w3 ⟨rfl,hc3⟩;have g1:=(HB.out.calm (hc2.trans hc3)).c2)
       |(go_at_call 225;refine (KD.out w3 (hc2.trans hc3)).mono ?_;rintro e w4 ⟨⟨a,rfl,hru⟩,hc4⟩;have HRU:=Lib.hid hru;clear hru))
      go_ret2
      exact⟨by rw[hE.out];rfl,HC.out.trans ((hc2.trans hc3).trans (hc4.alloc _))⟩
     ·have hub3:(u1 == 3)=false:=by simpa using hu3
      by_cases hk3:κ=3
      ·subst hk3
       have hE:Hid (seeStep t s (u1,u2)=(3,(fwd x.rule s).getD [])):=seeStep_imp HDl.out HX.out.1 (hu) (hu3)
       obtain⟨fo,hfo⟩:∃fo,fwd x.rule s=fo:=⟨_,rfl⟩
       rw[hfo] at hE
       have KF:∀(a:Pl) {W4:World} (W:World),RuleU W4 a x.rule∧x∈t.paths→Calm w1 W→Calm W4 W→Calls Tryz.prog 136 #[.agg #[.bool false,.slice a.AL npp a.cl,.bool rp,.slice a.AR nf a.cr,.bool rf],.string (bs s)] W fun e w'=>e=.returned (.tuple #[.string (bs (fo.getD [])),.bool fo.isSome])∧Calm W w':=fun a W4 W hru hW hW4=>by
        have:=fwd_c x.rule a s W (hru.1.calm hW4) (HSm.out x hru.2) hs ((HM.out.calm HC.out).calm hW)
        unfold fwdV ruleV at this
        rw[hfo,show x.rule.left.parts.length=npp from HX.out.2.1,show x.rule.right.parts.length=nf from HX.out.2.2.1,show x.rule.left.rest=rp from HX.out.2.2.2.1,show x.rule.right.rest=rf from HX.out.2.2.2.2] at this
        exact this
       clear hfo
       go_wp2_with (first
        |(go_at_call 165;rw[←HW.out];refine (KP.out _ (Calm.refl _)).mono ?_;rintro e w2 ⟨rfl,hc2⟩;have g0:=(HB.out.calm hc2).c2)
        |(go_at_call 185;refine (KU1.out w2 p hc2 rfl).mono ?_;rintro e w3 ⟨rfl,hc3⟩;have g1:=(HB.out.calm (hc2.trans hc3)).c2)
        |(go_at_call 225;refine (KD.out w3 (hc2.trans hc3)).mono ?_;rintro e w4 ⟨⟨a,rfl,hru⟩,hc4⟩;have HRU:=Lib.hid hru;clear hru)
        |(go_at_call 198;refine (imported_c a 3 npp nf rp rf _).mono ?_;rintro e w6 ⟨rfl,hc6⟩;have q0:=(BoxL.new w4 a 3 npp nf rp rf).c0;have r0:=((BoxL.new w4 a 3 npp nf rp rf).calm hc6).c0)
        |(go_at_call 136;refine (KF a w6 HRU.out ((hc2.trans hc3).trans (hc4.trans (((Calm.refl w4).alloc _).trans hc6))) (((Calm.refl w4).alloc _).trans hc6)).mono ?_;rintro e w7 ⟨rfl,hc7⟩;have r1:=(((BoxL.new w4 a 3 npp nf rp rf).calm hc6).calm hc7).c0))
       go_ret2
       exact⟨by rw[hE.out];rfl,HC.out.trans ((hc2.trans hc3).trans (((hc4.alloc _).trans hc6).trans hc7))⟩
      ·have hkb3:(κ == 3)=false:=by simpa using hk3
       have hE:Hid (seeStep t s (u1,u2)=(if κ=1∧u1=1 then 1 else 2,47 :: 47 :: t.name++s.drop 6)):=by have:=seeStep_own (u:=(u1,u2)) HDl.out (by rw[HX.out.1];exact hk3) (by rw[HX.out.1];exact hk4) (hu) (hu3);rw[HX.out.1] at this;exact this
       obtain⟨kk,hkk⟩:∃kk:Int,(if κ=1∧u1=1 then 1 else 2)=kk:=⟨_,rfl⟩
       have K0:Hid (∀W,Calls Tryz.prog 211 #[.int .i64 κ,.int .i64 u1] W fun e w'=>e=.returned (.int .i64 kk)∧W=w'):=fun W=>by
        have:=ownKind_c κ u1 W
        rw[hkk] at this
        exact this
       rw[hkk] at hE
       clear hkk
       go_wp2_with (first
        |(go_at_call 165;rw[←HW.out];refine (KP.out _ (Calm.refl _)).mono ?_;rintro e w2 ⟨rfl,hc2⟩;have g0:=(HB.out.calm hc2).c2)
        |(go_at_call 185;refine (KU1.out w2 p hc2 rfl).mono ?_;rintro e w3 ⟨rfl,hc3⟩;have g1:=(HB.out.calm (hc2.trans hc3)).c2)
        |(go_at_call 225;refine (KD.out w3 (hc2.trans hc3)).mono ?_;rintro e w4 ⟨⟨a,rfl,hru⟩,hc4⟩;have HRU:=Lib.hid hru;clear hru))
       obtain⟨w5,hw5⟩:∃w5,w5=w4.alloc (.cells #[.int .i64 κ,.slice a.AL npp a.cl,.bool rp,.slice a.AR nf a.cr,.bool rf] 68):=⟨_,rfl⟩
       have hc5:Calm w4 w5:=by rw[hw5];exact (Calm.refl w4).alloc _
       have hb5:BoxL w5 w4.heap.size a κ npp nf rp rf:=by rw[hw5];exact BoxL.new w4 a κ npp nf rp rf
       rw[←hw5]
       have hbs5:=HB.out.calm ((hc2.trans hc3).trans (hc4.trans hc5))
       have K1:=fun p:CalmTo w5=>K0.out p.w
       have e0:=fun p:CalmTo w5=>p.cell hb5.c0 hb5.lt
       have e1:=fun p:CalmTo w5=>p.cell hbs5.c0 hbs5.lt
       have hcc:Calm w1 w5:=(hc2.trans hc3).trans (hc4.trans hc5)
       have hns:=bs_size nm
       have hx1:(⟨#[47,47]⟩:ByteArray).size=2:=rfl
       clear hw5 hb5 hbs5 hc5 hc4
       refine wp_region_calm (by kernel_rfl) (by kernel_rfl) ?_
       repeat (go_big_quiet_step ((go_at_call 211;exact calmOfL (K1 _))))
       refine wpQuiet_nil ?_
       intro w7 hc7
       go_wp2
       go_ret2
       refine⟨?_,HC.out.trans (hcc.trans hc7)⟩
       show Ending.returned (.tuple #[.int .i64 kk,.string (⟨#[47,47]⟩++bs nm++(bs s).extract 6 s.length)])=_
       rw[hE.out,HNm.out,bs_dropk s 6 _ rfl,bs_append,show bs (47 :: 47 :: nm)=⟨#[47,47]⟩++bs nm from bs_append [47,47] nm]
def SmallSS (ss:List Strm):Prop:=∀st∈ss,∀x∈st.paths,SmallV x.rule
theorem SmallSS.at_ {ss:List Strm} (h:SmallSS ss) {i:Nat} (hi:i < ss.length):∀x∈(strm ss i).paths,SmallV x.rule:=h _ (List.mem_of_getElem? (at_strm hi))
theorem see_c (ss:List Strm) (F:Nat) (A:Option Addr) (n c i:Nat) (s:Str) (hn:ss.length=n) (hg:Sy.Good ss) (hsm:SmallSS ss) (hs:s.length≤10000) (h6:6≤s.length) (hi:i < n):∀w,ForestAt w F A n c ss→MaxL w →
  Calls Tryz.prog 185 #[.pointer (some ⟨F,0,none⟩),.int .i64 i,.string (bs s)] w fun e w'=>e=.returned (.tuple #[.int .i64 (see ss i s).1,.string (bs (see ss i s).2)])∧Calm w w':=by
 refine hg.above_ind (P:=fun i=>∀w,ForestAt w F A n c ss→MaxL w→Calls Tryz.prog 185 #[.pointer (some ⟨F,0,none⟩),.int .i64 i,.string (bs s)] w fun e w'=>e=.returned (.tuple #[.int .i64 (see ss i s).1,.string (bs (see ss i s).2)])∧Calm w w') ?_ ?_ i (by omega)
 ·intro i hi hp w hf hM
  rw[see_none hg hp]
  exact see_step ss F A n c i s none (1,[]) w hf (by omega) hp hs h6 (ownErr_zero (hg.own i hi)).2.1 hM (hsm.at_ hi) (fun _=>rfl) (fun W p _ h=>by cases h)
 ·intro i p hi hp ih w hf hM
  rw[see_some hg hp]
  exact see_step ss F A n c i s (some p) (see ss p s) w hf (by omega) hp hs h6 (ownErr_zero (hg.own i hi)).2.1 hM (hsm.at_ hi) (fun h=>by cases h) (fun W q hW h=>by
   cases h
   exact ih W (hf.calm hW) (hM.calm hW))
def FindEnd (ss:List Strm) (nm:Str) (A:Option Addr) (n c:Nat) (e:Ending) (w':World):Prop:=
 (∃x,x≠0∧readyE ss nm=x∧e=.returned (.tuple #[.pointer none,.int .i64 0,.int .i64 x])) ∨
 (∃F i,readyE ss nm=0∧Sy.Good ss∧findI ss nm=some i∧e=.returned (.tuple #[.pointer (some ⟨F,0,none⟩),.int .i64 (i:Nat),.int .i64 0])∧ForestAt w' F A n c ss)
theorem ready_bad {ss:List Strm} {nm:Str} (h:(strErr ss).2≠0):readyE ss nm=(strErr ss).2:=by simp[readyE,h]
theorem ready_none {ss:List Strm} {nm:Str} (h:(strErr ss).2=0) (hf:findI ss nm=none):readyE ss nm=86:=by simp[readyE,h,hf]
theorem ready_ok {ss:List Strm} {nm:Str} {i:Nat} (h:(strErr ss).2=0) (hf:findI ss nm=some i):readyE ss nm=0:=by simp[readyE,h,hf]
theorem results_tmp3 {fn:Func} {p q r:Tmp} (h:fn.results=#[.tmp p,.tmp q,.tmp r]) (tmps:Array Value) (P:Program) (w:World):(results fn tmps).run P w=.ok (.tuple #[tmps.getD p undef,tmps.getD q undef,tmps.getD r undef]) w:=by
 simp only[results,h]
 simp[Sem.run_bind,Result.andThen]
set_option maxHeartbeats 2000000 in
theorem find_c (ss:List Strm) (nm:Str) (A:Option Addr) (n c:Nat) (w:World) (hs:StrmsU w A ss) (hn:ss.length=n) (hnm:nm.length≤1048576) :
  Calls Tryz.prog 91 #[.slice A n c,.string (bs nm)] w fun e w'=>FindEnd ss nm A n c e w'∧Calm w w':=by
 have hk:=strcheck_c ss A n c w hs hn
 have KF:Hid (∀W,Calm w W→Calls Tryz.prog 89 #[.slice A n c] W fun e w'=>(∃F,e=.returned (.pointer (some ⟨F,0,none⟩))∧ForestAt w' F A n c ss)∧Calm W w'):=fun W hW=>forest_c ss A n c W (hs.calm hW) hn
 obtain⟨ix,hix⟩:∃ix,(strErr ss).1=ix:=⟨_,rfl⟩
 obtain⟨x,hx⟩:∃x,(strErr ss).2=x:=⟨_,rfl⟩
 rw[hix,hx] at hk
 have HX:=Lib.hid hx
 clear hix hx hs hn
 go_enter Tryz.func91,Tryz.ntmps91
 by_cases hx0:x=0
 ·subst hx0
  go_wp2_with (first
   |(go_at_call 62;refine hk.mono ?_;rintro e w1 ⟨rfl,hc1⟩)
   |(go_at_call 89;refine (KF.out w1 hc1).mono ?_;rintro e w2 ⟨⟨F,rfl,hf⟩,hc2⟩;obtain⟨B,hB,hI⟩:=hf.idx;have hrun:=(hI.2 w2 nm (Calm.refl w2) hnm).1;have HF:=Lib.hid hf;have HI:=Lib.hid hI;clear hf hI;obtain⟨fi,hfi⟩:∃fi,findI ss nm=fi:=⟨_,rfl⟩;rw[hfi] at hrun;have HFi:=Lib.hid hfi;clear hfi;rcases fi with _ | i;simp only[Option.getD_none,Option.isSome_none,Int.cast_ofNat_Int] at hrun;(rotate_left;simp only[Option.getD_some,Option.isSome_some] at hrun;rotate_right)))
  ·refine bodyPost_ret (results_tmp3 rfl _ _ _) rfl ?_
   exact⟨.inl ⟨86,by decide,ready_none HX.out HFi.out,rfl⟩,hc1.trans hc2⟩
  ·refine bodyPost_ret (results_tmp3 rfl _ _ _) rfl ?_
   exact⟨.inr ⟨F,i,ready_ok HX.out HFi.out,good_iff.1 HX.out,HFi.out,rfl,HF.out⟩,hc1.trans hc2⟩
 ·have hxb:(x != 0)=true:=by simpa using hx0
  have H0:=Lib.hid hx0
  clear hx0
  go_wp2_with (go_at_call 62;refine hk.mono ?_;rintro e w1 ⟨rfl,hc1⟩)
  refine bodyPost_ret (results_tmp3 rfl _ _ _) rfl ?_
  exact⟨.inl ⟨x,H0.out,by rw[ready_bad (by rw[HX.out];exact H0.out),HX.out],rfl⟩,hc1⟩
def locE (ss:List Strm) (nm s:Str):Int × Str × Int:=if readyE ss nm=0 then ((locI ss ((findI ss nm).getD 0) s).1,(locI ss ((findI ss nm).getD 0) s).2,0) else (0,[],readyE ss nm)
set_option maxHeartbeats 2000000 in
theorem locate_c (ss:List Strm) (nm s:Str) (A:Option Addr) (n c:Nat) (w:World) (hs:StrmsU w A ss) (hn:ss.length=n) (hnm:nm.length≤1048576) (hsl:s.length≤10000) (hsm:SmallSS ss) (hM:MaxL w) :
  Calls Tryz.prog 138 #[.slice A n c,.string (bs nm),.string (bs s)] w fun e w'=>e=.returned (.tuple #[.int .i64 (locE ss nm s).1,.string (bs (locE ss nm s).2.1),.int .i64 (locE ss nm s).2.2])∧Calm w w':=by
 have hk:=find_c ss nm A n c w hs hn hnm
 have HN:=Lib.hid hn
 have HM:=Lib.hid hM
 have HSm:=Lib.hid hsm
 have KU:Hid (∀W,Calm w W→Calls Tryz.prog 184 #[.string ⟨#[47,47,118,105,101,119]⟩,.string (bs s)] W fun e w'=>e=.returned (underE s)∧Calm W w'):=fun W hW=>under_c s W hsl (hM.calm hW)
 clear hs hn hM hsm
 go_enter Tryz.func138,Tryz.ntmps138
 go_wp2_with fail
 refine hk.mono ?_
 rintro e w1 ⟨hend,hc1⟩
 rcases hend with⟨x,hx0,hr,rfl⟩ | ⟨F,i,hr,hg,hfi,rfl,hf⟩
 ·have hxb:(x != 0)=true:=by simpa using hx0
  have hE:Hid (locE ss nm s=(0,[],x)):=by
   show _=_
   rw[locE,hr,if_neg hx0]
  clear hx0 hr hk
  go_wp2_with fail
  refine bodyPost_ret (results_tmp3 rfl _ _ _) rfl ?_
  exact⟨by rw[hE.out];rfl,hc1⟩
 ·have hE:Hid (locE ss nm s=((locI ss i s).1,(locI ss i s).2,0)):=by
   show _=_
   rw[locE,if_pos hr,hfi]
   rfl
  have HF:=Lib.hid hf
  have HG:=Lib.hid hg
  have hil:i < n:=by rw[←HN.out];exact findI_lt hfi
  have HC1:=Lib.hid hc1
  clear hr hfi hf hg hk
  obtain⟨uv,huv⟩:∃uv,underV s=uv:=⟨_,rfl⟩
  cases uv with
  |false=>
   have hE2:Hid (locE ss nm s=(0,[],0)):=by
    show _=_
    rw[hE.out,locI,huv]
    rfl
   rcases underE_no huv with h | h
   ·rw[h] at KU
    clear h huv hE
    go_wp2_with (go_at_call 184;refine (KU.out w1 hc1).mono ?_;rintro e w2 ⟨rfl,hc2⟩)
    refine bodyPost_ret (results_tmp3 rfl _ _ _) rfl ?_
    exact⟨by rw[hE2.out];rfl,HC1.out.trans hc2⟩
   ·rw[h] at KU
    clear h huv hE
    go_wp2_with (go_at_call 184;refine (KU.out w1 hc1).mono ?_;rintro e w2 ⟨rfl,hc2⟩)
    refine bodyPost_ret (results_tmp3 rfl _ _ _) rfl ?_
    exact⟨by rw[hE2.out];rfl,HC1.out.trans hc2⟩
  |true=>
   have hE2:Hid (locE ss nm s=((see ss i s).1,(see ss i s).2,0)):=by
    show _=_
    rw[hE.out,locI,huv]
    rfl
   rw[underE_yes huv] at KU
   have h6:6≤s.length:=by
    obtain⟨_,_,_,_,_,h,_⟩:=under_form huv
    have:=congrArg List.length h
    rw[List.length_take] at this
    simp[viewN] at this
    omega
   obtain⟨k,hk⟩:∃k,(see ss i s).1=k:=⟨_,rfl⟩
   obtain⟨src,hsrc⟩:∃src,(see ss i s).2=src:=⟨_,rfl⟩
   have KS:Hid (∀W,Calm w1 W→Calls Tryz.prog 185 #[.pointer (some ⟨F,0,none⟩),.int .i64 i,.string (bs s)] W fun e w'=>e=.returned (.tuple #[.int .i64 k,.string (bs src)])∧Calm W w'):=fun W hW=>by
    have:=see_c ss F A n c i s HN.out HG.out HSm.out hsl h6 hil W (HF.out.calm hW) (HM.out.calm (HC1.out.trans hW))
    rw[hk,hsrc] at this
    exact this
   rw[hk,hsrc] at hE2
   clear hk hsrc huv hE h6
   go_wp2_with (first
    |(go_at_call 184;refine (KU.out w1 hc1).mono ?_;rintro e w2 ⟨rfl,hc2⟩)
    |(go_at_call 185;refine (KS.out w2 hc2).mono ?_;rintro e w3 ⟨rfl,hc3⟩))
   refine bodyPost_ret (results_tmp3 rfl _ _ _) rfl ?_
   exact⟨by rw[hE2.out];rfl,HC1.out.trans (hc2.trans hc3)⟩
end Go.Proofs.YtcofdlipapnohaaGreatDoor
