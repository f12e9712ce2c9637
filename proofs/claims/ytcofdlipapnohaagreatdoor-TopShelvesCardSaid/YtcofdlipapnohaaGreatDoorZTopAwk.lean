/- Walk: the sanity check of the law answers true. -/
import Derived.Shelf.SlIter.Collect
import Derived.RangeFuncMany
import Derived.RangeFuncLeaves
import Derived.Shelf.AbstractIn
import Derived.Sort.MapsRangeIn
import Derived.Sort.KeysCollected
import Derived.OwnWalkIn
import Derived.TacticsInMore
import Derived.RegionIn
import Derived.LoopNIn
import Derived.LoopIn
import Derived.BigQuiet
import Derived.Deep.DeepCutAuto
import Derived.Deep.RegionHeld3
import Derived.Test.YtcofdlipapnohaaGreatDoorZSrvA
import Derived.Test.YtcofdlipapnohaaGreatDoorZSrvN
import Derived.Test.YtcofdlipapnohaaGreatDoorZCmds
import Derived.Test.YtcofdlipapnohaaGreatDoorZSrvB
import Derived.Test.YtcofdlipapnohaaGreatDoorZCopySt
set_option linter.unusedVariables false
set_option linter.unusedSimpArgs false
namespace Go.Proofs.YtcofdlipapnohaaGreatDoor
open Go Go.RowKit Go.Maps Go.Sort Go.Shelf Sy
def lsAssign : Code := (Code.region 2 #[{ dst := some 5, op := Op.alloc 115, type := 0, pos := "iter.go:51", after := #[], guard := none }, { dst := none, op := Op.store 115 (Operand.tmp 5) (Operand.tmp 7), type := 0, pos := "iter.go:51", after := #[{ on := 0, ground := Ground.data }, { on := 0, ground := Ground.phase }], guard := none }] false)
def lsBody : Code := (Code.block 1 (Code.region 3 #[{ dst := some 8, op := Op.load 53 (Operand.tmp 2), type := 53, pos := "iter.go:52", after := #[], guard := none }, { dst := some 9, op := Op.load 115 (Operand.tmp 5), type := 115, pos := "iter.go:52", after := #[], guard := none }, { dst := some 10, op := Op.buildSlice 53 1 #[(0, Operand.tmp 9)], type := 53, pos := "iter.go:52", after := #[{ on := 1, ground := Ground.data }], guard := none }, { dst := some 11, op := Op.call { callee := Callee.builtin Builtin.append, args := #[Operand.tmp 8, Operand.tmp 10], argTypes := #[53, 53] }, type := 53, pos := "iter.go:52", after := #[{ on := 0, ground := Ground.data }, { on := 2, ground := Ground.data }], guard := none }, { dst := none, op := Op.store 53 (Operand.tmp 2) (Operand.tmp 11), type := 0, pos := "iter.go:52", after := #[{ on := 3, ground := Ground.data }, { on := 3, ground := Ground.chain }, { on := 0, ground := Ground.phase }, { on := 1, ground := Ground.phase }, { on := 2, ground := Ground.phase }, { on := 3, ground := Ground.phase }], guard := none }] false))
def lsRec (fn:FuncId) (sv:Value) (Bs D:Nat) (st:LoopState) (pend:Option Code):Loop:=
 { state:=st,pending:=pend,fn,tmps:=#[.slice none 0 0,sv,.pointer (some ⟨Bs,0,none⟩),undef,.slice none 0 0,undef,sv,undef,undef,undef,undef,undef,undef],params:=#[7],assign:=lsAssign,body:=lsBody,defers:=D }
theorem ls_ne:(53:TypeId)≠115:=by decide
theorem infoK_Ls:(Tryz.prog.info? 115).map (fun i=>(i.zero,i.size,i.bytes))=some (some (.agg #[.string ⟨#[]⟩,.string ⟨#[]⟩,.int .i64 0,.int .i64 0,.int .i64 0]),5,56):=by kernel_rfl
theorem encLs_len (x:Lse):(encLs x).length=5:=rfl
theorem encLs_one (x:Lse):∀u∈encLs x,u.oneCell'=true:=by simp[encLs,Value.oneCell']
structure LpAt (w0:World) (fn:FuncId) (sv:Value) (Bs l D:Nat) (ss:List Lse) (W:World):Prop where
 box:∃v,W.heap[Bs]?=some (.cells #[v] 53 (0,0))∧W.ownsRow w0.heap.size 115 5 v ss.length (encs encLs ss)
 L:W.heap[l]?=some (.loop (lsRec fn sv Bs D .ready none))
 K:W.heap[D]?=some (.deferred (some []))
 below:Below w0.heap.size w0 W
theorem ls_abides (w0:World) (fn:FuncId) (sv:Value) (Bs l D B:Nat) (hB:w0.heap.size≤B):AbidesFrom B (LpAt w0 fn sv Bs l D):=fun s W W' row h hg hrow=>by
 have hrow':∀r,row=some r→∃o:Obj,W.heap[r]?=some o∧o.isWalk=true:=fun r e=>(hrow r e).2
 obtain⟨v,hv,hr⟩:=h.box
 exact⟨⟨v,(grownBy_keeps hg hrow' hv rfl).trans hv,ownsRow_abides_a hr hg hrow'⟩,(grownBy_keeps hg hrow' h.L rfl).trans h.L,(grownBy_keeps hg hrow' h.K rfl).trans h.K,
  h.below.grown hg h.below.size (fun k e=>Nat.le_trans hB (hrow k e).1)⟩
theorem ls_cells (w:World) (vs:List Value) (T:TypeId):∀j u,vs[j]?=some u→(w.alloc (.cells vs.toArray T)).cell? ((⟨w.heap.size,0,none⟩:Addr).add j)=some u:=fun j u hu=>by
 have h:=(CellsB.new w vs.toArray T).at_ j u hu
 have e:(⟨w.heap.size,0,none⟩:Addr).add j=⟨w.heap.size,j,none⟩:=by simp[Addr.add_lit]
 rw[e]
 exact h
set_option maxRecDepth 100000 in
set_option maxHeartbeats 4000000 in
theorem lsYield (F:Fence) (m:Nat) (w0:World) (fn:FuncId) (hfn:F.fn fn) (sv:Value) (Bs l D:Nat) (hBl:Bs≠l) (hDl:D≠l) (hDB:D≠Bs) (h0B:w0.heap.size≤Bs) (h0l:w0.heap.size≤l)
  (N:Nat) (hN:N≤1000) (ss:List Lse) (x:Lse) (W:World) (h:LpAt w0 fn sv Bs l D ss W) (hlen:ss.length < N) :
  YieldAt F m Tryz.prog l #[lseV x] W fun e W'=>e=.returned (.bool true)∧LpAt w0 fn sv Bs l D (ss++[x]) W'∧KeepsWalks W W':=by
 obtain⟨i0,hi,hz0,hz1,hz2⟩:=info_parts infoK_Ls
 obtain⟨v,hv,hrow⟩:=h.box
 obtain⟨xp,xh,xf,xr,xt⟩:=x
 refine⟨fn,#[.slice none 0 0,sv,.pointer (some ⟨Bs,0,none⟩),undef,.slice none 0 0,undef,sv,.agg #[.string (bs xp),.string (bs xh),.int .i64 xf,.int .i64 xr,.int .i64 xt],undef,undef,undef,undef,undef],lsAssign,lsBody,by simpa[lsRec,lseV,encLs] using run_yield (P:=Tryz.prog) (args:=#[lseV ⟨xp,xh,xf,xr,xt⟩]) h.L rfl,roundIn_of_wpIn hfn ?_⟩
 have hl:l < W.heap.size:=(Array.getElem?_eq_some_iff.1 h.L).1
 obtain⟨WA,hWA⟩:∃WA,W.alloc (.cells #[.string (bs xp),.string (bs xh),.int .i64 xf,.int .i64 xr,.int .i64 xt] 115)=WA:=⟨_,rfl⟩
 obtain⟨P5,hP5⟩:∃P5,W.heap.size=P5:=⟨_,rfl⟩
 have hA:CellsB WA P5 (encLs ⟨xp,xh,xf,xr,xt⟩):=by rw[←hWA,←hP5];exact CellsB.new W _ _
 have hkA:KeepsWalks W WA:=by rw[←hWA];exact KeepsWalks.alloc _ _
 have hvA0:WA.heap[Bs]?=some (.cells #[v] 53 (0,0)):=by rw[←hWA];exact (Below.heap_alloc _ _ Bs (Array.getElem?_eq_some_iff.1 hv).1).trans hv
 have hKA0:WA.heap[D]?=some (.deferred (some [])):=by rw[←hWA];exact (Below.heap_alloc _ _ D (Array.getElem?_eq_some_iff.1 h.K).1).trans h.K
 have hLA0:WA.heap[l]?=some (.loop (lsRec fn sv Bs D .ready none)):=by rw[←hWA];exact (Below.heap_alloc _ _ l hl).trans h.L
 have hrowA0:WA.ownsRow w0.heap.size 115 5 v ss.length (encs encLs ss):=by rw[←hWA];exact hrow.alloc _
 have hbA0:Below w0.heap.size w0 WA:=by rw[←hWA];exact h.below.alloc h.below.size _
 have hlA0:l < WA.heap.size:=(Array.getElem?_eq_some_iff.1 hLA0).1
 have hbr:=run_beginRound (P:=Tryz.prog) hLA0 rfl
 obtain⟨W2,hW2⟩:∃W2,WA.putObj l (.loop { lsRec fn sv Bs D .ready none with state:=.busy })=W2:=⟨_,rfl⟩
 rw[hW2] at hbr
 have hg2:WA.grownBy W2 (some l):=by rw[←hW2];exact grownBy_putObj_a _ _ _
 have hk2:KeepsWalks W W2:=hkA.trans (by rw[←hW2];exact KeepsWalks.putObj _ hLA0 rfl)
 have hvA:W2.heap[Bs]?=some (.cells #[v] 53 (0,0)):=by rw[←hW2];exact (World.putObj_heap_other hBl).trans hvA0
 have hKA:W2.heap[D]?=some (.deferred (some [])):=by rw[←hW2];exact (World.putObj_heap_other hDl).trans hKA0
 have hLA:W2.heap[l]?=some (.loop { lsRec fn sv Bs D .ready none with state:=.busy }):=by rw[←hW2];exact World.putObj_heap_same hlA0
 have hrowA:W2.ownsRow w0.heap.size 115 5 v ss.length (encs encLs ss):=hrowA0.kept hg2 (ownsRow_ne_a hrowA0 hLA0 (fun cur e=>by cases e))
 have hbA:Below w0.heap.size w0 W2:=hbA0.grown hg2 hbA0.size (fun k e=>by cases e;exact h0l)
 have hA2:CellsB W2 P5 (encLs ⟨xp,xh,xf,xr,xt⟩):=hA.grown hg2 (fun e=>by cases e;omega)
 obtain⟨hc2,hf2⟩:=cell_of_box_a hvA
 have hBltA:Bs < W2.heap.size:=(Array.getElem?_eq_some_iff.1 hvA).1
 have hlA:l < W2.heap.size:=(Array.getElem?_eq_some_iff.1 hLA).1
 have hDltA:D < W2.heap.size:=(Array.getElem?_eq_some_iff.1 hKA).1
 have x0:=hA2.at_ 0 _ rfl
 have x1:=hA2.at_ 1 _ rfl
 have x2:=hA2.at_ 2 _ rfl
 have x3:=hA2.at_ 3 _ rfl
 have x4:=hA2.at_ 4 _ rfl
 have lA:=hA2.lt
 have ne_of:∀{j:Nat} {o:Obj},W2.heap[j]?=some o→(∀cur,o≠.cells cur 115 (0,0))→some j≠v.ownBlock:=fun hj hno=>by
  rcases ownsRow_ne_a hrowA hj hno with e | e
  ·rw[e];simp
  ·exact fun e'=>e e'.symm
 have hneB:∀cur,(Obj.cells #[v] 53 (0,0))≠.cells cur 115 (0,0):=fun cur e=>ls_ne (Obj.cells.inj e).2.1
 have hOWN:∀(v':Value) (w3:World),w3.ownsRow w0.heap.size 115 5 v' (ss.length+1) (encs encLs ss++encLs ⟨xp,xh,xf,xr,xt⟩)→∃g' cap',v'=.slice (some ⟨g',0,none⟩) (ss.length+1) cap':=fun v' w3 hown'=>by
  rcases hown'.2 with⟨_,h0⟩ | ⟨g',cap',cur',h1,_⟩
  ·exact absurd h0 (by omega)
  ·exact⟨g',cap',h1⟩
 clear hA hA2 hW2
 unfold lsAssign
 gi_wp2_with gi_round_op_a
 unfold lsBody
 gi_wp2_with (first
  |(gi_at_builtin;refine wpListIn_append_own _ rfl _ _ 53 rfl w0.heap.size 115 i0 (.agg #[.string ⟨#[]⟩,.string ⟨#[]⟩,.int .i64 0,.int .i64 0,.int .i64 0]) 5 56 Tryz.underlying53 hi hz0 hz1 hz2 rfl (by decide) _ _ _ rfl (hrowA.alloc _) ⟨W2.heap.size,0,none⟩ 1 1 (encLs ⟨xp,xh,xf,xr,xt⟩) rfl rfl (ls_cells W2 _ _) (encLs_one _) (by unfold maxLen;omega) (by omega) (by have:=hbA.size;simp;omega) ?_;intro v' w3 hown' hg3 _
    have hv3:w3.heap[Bs]?=some (.cells #[v] 53 (0,0)):=(hg3.block Bs (by simp;omega) (ne_of hvA hneB)).trans ((Below.heap_alloc _ _ Bs hBltA).trans hvA)
    obtain⟨hc3,hf3⟩:=cell_of_box_a hv3
    obtain⟨g',cap',rfl⟩:=hOWN v' w3 hown'
    go_frame)
  |gi_round_op_a)
 have hg3':(W2.alloc (.cells (encLs ⟨xp,xh,xf,xr,xt⟩).toArray 115)).grownBy w3 v.ownBlock:=hg3
 have hL3:w3.heap[l]?=some (.loop { lsRec fn sv Bs D .ready none with state:=.busy }):=(hg3'.block l (by simp;omega) (ne_of hLA (fun cur e=>by cases e))).trans ((Below.heap_alloc _ _ l hlA).trans hLA)
 have hK3:w3.heap[D]?=some (.deferred (some [])):=(hg3'.block D (by simp;omega) (ne_of hKA (fun cur e=>by cases e))).trans ((Below.heap_alloc _ _ D hDltA).trans hKA)
 obtain⟨w4,hw4⟩:∃w4,w3.setCell ⟨Bs,0,none⟩ (.slice (some ⟨g',0,none⟩) (ss.length+1) cap')=w4:=⟨_,rfl⟩
 rw[hw4]
 have hg4:w3.grownBy w4 (some Bs):=by rw[←hw4];exact grownBy_setCell0_a _ _ _
 have hv4:w4.heap[Bs]?=some (.cells #[.slice (some ⟨g',0,none⟩) (ss.length+1) cap'] 53 (0,0)):=by rw[←hw4];exact heap_setCell_box_a _ hv3
 have hL4:w4.heap[l]?=some (.loop { lsRec fn sv Bs D .ready none with state:=.busy }):=(hg4.block l (Array.getElem?_eq_some_iff.1 hL3).1 (fun e=>hBl (by cases e;rfl))).trans hL3
 have hK4:w4.heap[D]?=some (.deferred (some [])):=(hg4.block D (Array.getElem?_eq_some_iff.1 hK3).1 (fun e=>hDB (by cases e;rfl))).trans hK3
 have hrow4:=hown'.kept hg4 (ownsRow_ne_a hown' hv3 hneB)
 have hl4:l < w4.heap.size:=(Array.getElem?_eq_some_iff.1 hL4).1
 have hb3:Below w0.heap.size w0 w3:=(hbA.alloc hbA.size _).grown hg3' (by have:=hbA.size;simp;omega) (fun k e=>(hrowA.lt k e).1)
 have hb4:Below w0.heap.size w0 w4:=hb3.grown hg4 hb3.size (fun k e=>by cases e;exact h0B)
 have hk4:KeepsWalks W w4:=((hk2.trans (KeepsWalks.alloc _ _)).trans (KeepsWalks.of_grownBy hg3' (ownsRow_not_walk_a (hrowA.alloc _)))).trans (by rw[←hw4];exact KeepsWalks.setCell _ _ _)
 clear hw4
 refine⟨_,_,run_endRound none hL4,rfl,⟨⟨_,(World.putObj_heap_other hBl).trans hv4,?_⟩,World.putObj_heap_same hl4,(World.putObj_heap_other hDl).trans hK4,hb4.grown (grownBy_putObj_a _ _ _) hb4.size (fun k e=>by cases e;exact h0l)⟩,hk4.trans (KeepsWalks.putObj _ hL4 rfl)⟩
 have:=hrow4.kept (grownBy_putObj_a w4 l (.loop { { lsRec fn sv Bs D .ready none with state:=.busy } with state:=if (none:Option Code).isNone then .ready else .done,pending:=none })) (ownsRow_ne_a hrow4 hL4 (fun cur e=>by cases e))
 have e1:encs encLs (ss++[⟨xp,xh,xf,xr,xt⟩])=encs encLs ss++encLs ⟨xp,xh,xf,xr,xt⟩:=by simp[encs]
 rw[e1,List.length_append]
 exact this
set_option maxRecDepth 100000 in
set_option maxHeartbeats 4000000 in
theorem lsAppendSeq_in (n:Nat) (hn:2≤n) (g:Nat) (lb:Array Value) (eg:∀args w,(callFunc g args).run Tryz.prog w=.ok (.enter g args) w)
  (S:List Lse→Prop) (N:Nat) (hN:N≤1000) (w:World) (hseq:SeqGives Fence.wide (n - 1) Tryz.prog g lb lseV S N w) :
  CallsIn Fence.wide n Tryz.prog 119 #[.slice none 0 0,.func (.func g) #[] lb] w fun e w'=>∃(v:Value) (ss:List Lse),e=.returned v∧S ss∧w'.ownsRow w.heap.size 115 5 v ss.length (encs encLs ss)∧Below w.heap.size w w':=by
 have h1:1≤n:=by omega
 refine callsIn_of_wp_marks Tryz.func119 rfl trivial ?_ rfl
 simp only[Tryz.ntmps119,List.size_toArray,List.length_cons,List.length_nil,Nat.reduceAdd,Nat.reduceSub,Array.replicate_succ,Array.replicate_zero,List.push_toArray,List.append_toArray,List.nil_append,List.cons_append]
 gi_wp2
 refine wpIn_rangeFunc ?_
 intro fn hfn
 obtain⟨W0,hW0⟩:∃W0,w.alloc (.cells #[.slice none 0 0] 53)=W0:=⟨_,rfl⟩
 have hs0:W0.heap.size=w.heap.size+1:=by rw[←hW0];simp
 have hv0:W0.heap[w.heap.size]?=some (.cells #[.slice none 0 0] 53 (0,0)):=by rw[←hW0];exact World.alloc_heap_new w _
 have hb0:Below w.heap.size w W0:=by rw[←hW0];exact (Below.refl _ w).alloc (Nat.le_refl _) _
 rw[hW0]
 obtain⟨W1,hW1⟩:∃W1,(W0.alloc (.deferred (some []))).alloc (.loop (lsRec fn (.func (.func g) #[] lb) w.heap.size W0.heap.size .ready none))=W1:=⟨_,rfl⟩
 have hold:∀k,k < W0.heap.size→W1.heap[k]?=W0.heap[k]?:=fun k hk=>by
  rw[←hW1];exact (Below.heap_alloc _ _ k (by simp;omega)).trans (Below.heap_alloc _ _ k hk)
 have hb1:Below w.heap.size w W1:=by rw[←hW1];exact (hb0.alloc hb0.size _).alloc (by have:=hb0.size;simp;omega) _
 have hs1:W1.heap.size=W0.heap.size+2:=by rw[←hW1];simp
 have hM:LpAt w fn (.func (.func g) #[] lb) w.heap.size (W0.heap.size+1) W0.heap.size [] W1:=
  ⟨⟨_,(hold w.heap.size (by omega)).trans hv0,⟨rfl,.inl ⟨rfl,rfl⟩⟩⟩,
   by rw[←hW1];have:=World.alloc_heap_new (W0.alloc (.deferred (some []))) (.loop (lsRec fn (.func (.func g) #[] lb) w.heap.size W0.heap.size .ready none));rwa [World.size_alloc] at this,
   by rw[←hW1];exact (Below.heap_alloc _ _ _ (by simp)).trans (World.alloc_heap_new W0 _),hb1⟩
 refine⟨W0.heap.size+1,[{ target:=.collected W0.heap.size,args:=#[] }],W1,{ target:=.fn (.func g) lb,args:=#[.func (.yield (W0.heap.size+1)) #[] #[]] },W1,g,
  #[.func (.yield (W0.heap.size+1)) #[] #[]]++lb,W1,?_,?_,?_,?_,fun _=>h1,?_⟩
 ·rw[←hW1];exact run_enterLoop_outer _ _ _ _ _
 ·simp[resolve,go_sem]
 ·intro f' hf';trivial
 ·simp[invoke,go_sem,eg]
 ·refine (hseq (W0.heap.size+1) (LpAt w fn (.func (.func g) #[] lb) w.heap.size (W0.heap.size+1) W0.heap.size) W1 hb1 (ls_abides _ _ _ _ _ _ _ hb1.size)
   (fun pre x W hJ hl=>lsYield Fence.wide (n - 1 - 1) w fn hfn _ w.heap.size (W0.heap.size+1) W0.heap.size (by omega) (by omega) (by omega) (Nat.le_refl _) (by omega) N hN pre x W hJ hl) hM).mono ?_
  rintro e W2 ⟨⟨v0,rfl⟩,ss,hS,h2⟩
  obtain⟨v,hv,hrow⟩:=h2.box
  have hend:=run_endLoop (P:=Tryz.prog) h2.L (by simp[lsRec])
  obtain⟨W3,hW3⟩:∃W3,W2.putObj (W0.heap.size+1) (.loop { lsRec fn (.func (.func g) #[] lb) w.heap.size W0.heap.size .ready none with state:=.exhausted })=W3:=⟨_,rfl⟩
  rw[hW3] at hend
  have hg3:W2.grownBy W3 (some (W0.heap.size+1)):=by rw[←hW3];exact grownBy_putObj_a _ _ _
  have hv3:W3.heap[w.heap.size]?=some (.cells #[v] 53 (0,0)):=by rw[←hW3];exact (World.putObj_heap_other (by omega)).trans hv
  have hK3:W3.heap[W0.heap.size]?=some (.deferred (some [])):=by rw[←hW3];exact (World.putObj_heap_other (by omega)).trans h2.K
  have hrow3:=hrow.kept hg3 (ownsRow_ne_a hrow h2.L (fun cur e=>by cases e))
  have hb3:Below w.heap.size w W3:=h2.below.grown hg3 h2.below.size (fun k e=>by cases e;omega)
  obtain⟨hc3,hf3⟩:=cell_of_box_a hv3
  clear hW3
  refine⟨none,W3,hend,?_⟩
  gi_wp2
  rw[←hs0]
  refine⟨by simp,.inl ⟨_,_,rfl,run_takeDeferred hK3,?_⟩⟩
  exact⟨_,results_tmp rfl _ _ _,v,ss,rfl,hS,hrow3.kept (grownBy_putObj_a _ _ _) (ownsRow_ne_a hrow3 hK3 (fun cur e=>by cases e)),hb3.grown (grownBy_putObj_a _ _ _) hb3.size (fun k e=>by cases e;omega)⟩
set_option maxHeartbeats 4000000 in
theorem lsCollect_in (n:Nat) (hn:3≤n) (g:Nat) (lb:Array Value) (eg:∀args w,(callFunc g args).run Tryz.prog w=.ok (.enter g args) w)
  (S:List Lse→Prop) (N:Nat) (hN:N≤1000) (w:World) (hseq:SeqGives Fence.wide (n - 1 - 1) Tryz.prog g lb lseV S N w) :
  CallsIn Fence.wide n Tryz.prog 83 #[.func (.func g) #[] lb] w fun e w'=>∃(v:Value) (ss:List Lse),e=.returned v∧S ss∧w'.ownsRow w.heap.size 115 5 v ss.length (encs encLs ss)∧Below w.heap.size w w':=by
 have h1:1≤n:=by omega
 refine callsIn_of_wp Tryz.func83 rfl trivial ?_ rfl
 simp only[Tryz.ntmps83,List.size_toArray,List.length_cons,List.length_nil,Nat.reduceAdd,Nat.reduceSub,Array.replicate_succ,Array.replicate_zero,List.push_toArray,List.append_toArray,List.nil_append,List.cons_append]
 gi_wp2_with fail
 refine⟨trivial,(lsAppendSeq_in (n - 1) (by omega) g lb eg S N hN w hseq).mono ?_⟩
 rintro e w' ⟨v,ss,rfl,hS,hrow,hb⟩
 gi_wp2
 go_ret
 exact⟨v,ss,rfl,hS,hrow,hb⟩
def DEnt (D:DataW Value):Prop:=∀(k:Lit) y,(∀zd,D.atKey k zd=y)→∃z:Lse,y=.held (lseV z)
theorem dEnt_nil:DEnt (.map []):=fun k y h=>by
 have h1:=h (.lit (.bool true))
 have h2:=h (.lit (.bool false))
 rw[show (DataW.map []:DataW Value).atKey k (.lit (.bool true))=.lit (.bool true) from rfl] at h1
 rw[show (DataW.map []:DataW Value).atKey k (.lit (.bool false))=.lit (.bool false) from rfl] at h2
 rw[←h1] at h2
 cases h2
theorem dEnt_x:DEnt xD:=fun k y h=>by
 by_cases e:k=.string xPath
 ·have h1:=h (.lit (.bool true))
  unfold xD at h1
  rw[e,Maps.atKey_put_same Maps.isMap_empty (by exact trivial)] at h1
  exact⟨xLse,h1.symm⟩
 ·refine dEnt_nil k y (fun zd=>?_)
  have h1:=h zd
  unfold xD at h1
  rwa [Maps.atKey_put_other e] at h1
set_option maxRecDepth 100000 in
set_option maxHeartbeats 4000000 in
theorem lsValues1_in (n:Nat) (hn:1≤n) (l Bm b nn:Nat) (D0:DataW Value) (hD:DEnt D0) (J:List Lse→World→Prop)
  (hY:∀pre x W,J pre W→pre.length < Maps.size D0→YieldAt Fence.wide (n - 1) Tryz.prog l #[lseV x] W fun e W'=>e=.returned (.bool true)∧J (pre++[x]) W'∧KeepsWalks W W')
  (W:World) (hJ:AbidesFrom W.heap.size J) (hm:W.cell? ⟨Bm,0,none⟩=some (.map (some b))) (hown:W.ownsMap Tryz.prog 9 heldR b nn D0) (h0:J [] W) :
  CallsIn Fence.wide n Tryz.prog 85 #[.func (.yield l) #[] #[],.pointer (some ⟨Bm,0,none⟩)] W fun e W'=>(∃v,e=.returned v)∧∃xs:List Lse,xs.length≤Maps.size D0∧J xs W':=by
 refine callsIn_of_wp Tryz.func85 rfl trivial ?_ rfl
 simp only[Tryz.ntmps85,List.size_toArray,List.length_cons,List.length_nil,Nat.reduceAdd,Nat.reduceSub,Array.replicate_succ,Array.replicate_zero,List.push_toArray,List.append_toArray,List.nil_append,List.cons_append]
 gi_wp2_with (first
  |(gi_at_range;refine wpListIn_range_own _ rfl _ 116 rfl 9 115 keyS_law Tryz.underlying116 _ b nn _ rfl hown ?_;intro w0 hrg0 hg0 hs0)
  |gi_in)
 go_frame
 gi_loopw [4] (fun _ wr=>∃(left:Lit→Bool) (cnt:Nat) (ss:List Lse),wr.ranges Tryz.prog 9 heldR b W.heap.size nn D0 left cnt∧ss.length+cnt≤Maps.size D0∧J ss wr)
  (fun _ wr=>wr.rangeLeft b W.heap.size)
 case atStart=>
  exact⟨_,_,[],hrg0,by simp,hJ [] W w0 none h0 hg0 (fun r e=>by cases e)⟩
 case round=>
  obtain⟨left,cnt,ss,hrg,hcs,hJs⟩:=hrel
  gi_wp2_with (first
   |(gi_at_next;refine wpListIn_next_ranges _ rfl _ rfl 9 keyS_law heldR encStr id (fun key kl hk=>by obtain⟨x,hx,_⟩:=Maps.keyOf_str Tryz.underlying9 hk;exact⟨x,hx⟩) (fun v _ _=>⟨v,rfl⟩) b W.heap.size nn _ _ _ rfl hrg ?_ ?_)
   |gi_in)
  ·intro hc0 hl0
   gi_wp2
   go_end0
   exact⟨⟨_,rfl⟩,ss,by omega,hJs⟩
  ·intro x c kl yd yp w2 cnt2 hkey hlk hv hat hrg2 hlt hg2 hs2 hen
   have hJ2:J ss w2:=hJ ss wr w2 (some W.heap.size) hJs hg2 (fun r e=>by cases e;exact⟨Nat.le_refl _,hrg.iter_walk⟩)
   obtain⟨z,hz⟩:=hD kl yd hat
   have hcz:c=lseV z:=by
    have h1:heldR c=some (yd,yp):=hv
    rw[hz] at h1
    unfold heldR at h1
    simp only[Option.some.injEq,Prod.mk.injEq,DataW.held.injEq] at h1
    exact h1.1
   obtain⟨zp,zh,zf,zr,zt⟩:=z
   have hcz2:c=.agg #[.string (bs zp),.string (bs zh),.int .i64 zf,.int .i64 zr,.int .i64 zt]:=hcz
   subst hcz2
   have hJ3:J ss (w2.alloc (.cells #[.string (bs zp),.string (bs zh),.int .i64 zf,.int .i64 zr,.int .i64 zt] 115)):=hJ ss w2 _ none hJ2 (World.grownBy_alloc _ _ _) (fun r e=>by cases e)
   have hrg3:=hrg2.of_walks (KeepsWalks.alloc w2 (.cells #[.string (bs zp),.string (bs zh),.int .i64 zf,.int .i64 zr,.int .i64 zt] 115))
   obtain⟨fn,tmps,assign,body,hy,hR⟩:=hY ss ⟨zp,zh,zf,zr,zt⟩ _ hJ3 (by omega)
   dsimp only[lseV,encLs] at hy
   clear hs2 hcz hz hv hat
   gi_wp2
   refine hR.mono ?_
   rintro e W3 ⟨rfl,hJ4,hk3⟩
   gi_wp2
   have hrg4:=hrg3.of_walks hk3
   go_roundw
   case rel=>exact⟨_,cnt2,ss++[⟨zp,zh,zf,zr,zt⟩],hrg4,by simp;omega,hJ4⟩
   case measure=>rw[hrg4.left_eq,hrg.left_eq];exact hlt
end Go.Proofs.YtcofdlipapnohaaGreatDoor
namespace Go.Proofs.YtcofdlipapnohaaGreatDoor
open Go Go.RowKit Sy
set_option maxHeartbeats 4000000 in
theorem leaseNew_c (w:World):Calls Tryz.prog 21 #[] w fun e w'=>e=.returned (.pointer (some ⟨w.heap.size+1,0,none⟩))∧Hid (w'=(w.alloc (.map #[] 0)).alloc (.cells #[.int .i64 0,.map (some w.heap.size)] 118)):=by
 have hmm:=@run_makeMap Tryz.prog
 go_enter Tryz.func21,Tryz.ntmps21
 go_wp2_with fail
 go_ret
 exact⟨rfl,rfl⟩
def newSrv (w:World):Srv:=⟨w.heap.size+2,w.heap.size+1,w.heap.size,0,none,0,[],none,0,[],none,0,[],none,0,[],none,0,[],0,.map []⟩
set_option maxHeartbeats 4000000 in
theorem srvNew_c (w:World):Calls Tryz.prog 10 #[] w fun e w'=>e=.returned (.pointer (some ⟨w.heap.size+2,0,none⟩))∧SrvAt w' (newSrv w)∧Calm w w':=by
 have K:=Lib.hid (leaseNew_c w)
 go_enter Tryz.func10,Tryz.ntmps10
 go_wp2_with fail
 refine K.out.mono ?_
 rintro e w2 ⟨rfl,hw2⟩
 have hsz:w2.heap.size=w.heap.size+2:=by rw[hw2.out];simp
 have hC:Hid (Calm w w2):=by
  show Calm w w2
  rw[hw2.out]
  exact ((Calm.refl _).alloc _).alloc _
 have HM:Hid (MapH w2 w.heap.size 0 (.map [])∧CellsB w2 (w.heap.size+1) [.int .i64 0,.map (some w.heap.size)]):=by
  show _∧_
  rw[hw2.out]
  refine⟨MapH.calm (World.ownsMap_made w _ _ _) ((Calm.refl _).alloc _),?_⟩
  have:=CellsB.new (w.alloc (.map #[] 0)) #[.int .i64 0,.map (some w.heap.size)] 118
  rwa [World.size_alloc] at this
 have HZ:=Lib.hid hsz
 clear hw2 hsz
 go_wp2_with fail
 go_ret
 have hsz:=HZ.out
 refine⟨by rw[←hsz];rfl,?_,hC.out.alloc _⟩
 have hz:=CellsB.new w2 (newSrv w).vs.toArray 83
 rw[hsz] at hz
 refine⟨hz,HM.out.2.calm ((Calm.refl _).alloc _),HM.out.1.calm ((Calm.refl _).alloc _),⟨by show w.heap.size+2≠w.heap.size+1;omega,by show w.heap.size+2≠w.heap.size;omega,by show w.heap.size+1≠w.heap.size;omega⟩,World.ownsRow_nil _ _ _ _,World.ownsRow_nil _ _ _ _,(fun i hi=>by cases hi),(fun i hi=>by cases hi),fun U _=>⟨Nat.zero_le _,fun h=>absurd h (Nat.lt_irrefl _)⟩,fun U _ hne=>absurd rfl hne,fun U _ hne=>absurd rfl hne,(fun p hp=>by cases hp),(fun p hp=>by cases hp)⟩
theorem dir_c (A:Option Addr) (n c:Nat) (w:World):Calls Tryz.prog 11 #[.slice A n c] w fun e w'=>e=.returned (.agg #[.slice A n c,.bool true])∧Calm w w':=by
 go_enter Tryz.func11,Tryz.ntmps11
 go_wp2_with fail
 refine bodyPost_ret (v:=.agg #[.slice A n c,.bool true]) ?_ rfl ⟨rfl,?_⟩
 ·rw[results_cell1 rfl]
  go_simp
 ·first
   |exact calm_set2 ((Calm.refl _).alloc _) (Nat.le_refl _) _ _
   |exact (Calm.refl _).alloc _
theorem fine_c (b:Nat) (w:World) (hb:b < w.heap.size) (h:∀i,i < 3→w.cell? ⟨b,i,none⟩=some (.int .i64 0)):Calls Tryz.prog 12 #[.slice (some ⟨b,0,none⟩) 3 3] w fun e w'=>e=.returned (.bool true)∧w=w':=by
 have H:=Lib.hid h
 clear h
 go_enter Tryz.func12,Tryz.ntmps12
 go_wp2_with fail
 go_loopw [7] (fun i wr=>∃j:Nat,j≤3∧i=.int .i64 j∧wr=w) (fun i _=>3 - (intOf i).toNat)
 case atStart=>exact⟨0,by decide,rfl,rfl⟩
 case round=>
  obtain⟨j,hj,rfl,rfl⟩:=hrel
  by_cases h0:j < 3
  ·have c0:=H.out j h0
   have hj1:(j:Int) < 3:=by omega
   have hj0:(0:Int)≤(j:Int):=by omega
   go_wp2_with fail
   go_roundw
   case rel=>exact⟨j+1,by omega,by go_num,(by first | exact rfl | trivial)⟩
   case measure=>simp[intOf];omega
  ·obtain rfl:j=3:=by omega
   go_wp2_with fail
   go_ret
   exact⟨rfl,rfl⟩
structure Start (x:Srv):Prop where
 ss:x.ss=mainS
 cs:x.cs=[annN,bobN]
 tk:x.tk=0
 rs:x.rs=[]∧x.RA=none∧x.rc=0
 hs:x.hs=[]∧x.HA=none∧x.hc=0
 ps:x.ps=[]
 k:x.k=0
 D:x.D=.map []
def cmd0:Cmd:=⟨0,[],[],[],0,0,0,[],[],[],none,0,0,none,0,0⟩
set_option maxRecDepth 100000 in
set_option maxHeartbeats 16000000 in
theorem begun_c (w:World):Calls Tryz.prog 5 #[] w fun e w'=>(∃x:Srv,e=.returned (.pointer (some ⟨x.S,0,none⟩))∧SrvAt w' x∧Start x∧∀i,x.F i→w.heap.size≤i)∧Calm w w':=by
 have KN:=Lib.hid (srvNew_c w)
 go_enter Tryz.func5,Tryz.ntmps5
 go_wp2_with fail
 refine KN.out.mono ?_
 rintro e w1 ⟨rfl,hs1,hc1⟩
 obtain⟨w2,hw2⟩:∃w2,w2=w1.alloc (.cells #[.string ⟨#[118,105,101,119]⟩] 9):=⟨_,rfl⟩
 obtain⟨P2,e2⟩:∃P2,w1.heap.size=P2:=⟨_,rfl⟩
 have hp2:CellsB w2 P2 [.string ⟨#[118,105,101,119]⟩]:=by rw[hw2,←e2];exact CellsB.new w1 _ _
 have H1:Hid (SrvAt w2 (newSrv w)∧Calm w w2):=by
  show _∧_
  rw[hw2]
  exact⟨hs1.calm ((Calm.refl _).alloc _),hc1.alloc _⟩
 have HP2:=Lib.hid hp2
 clear hs1 hc1 hp2
 go_upto_region 4 with (fail)
 go_wp2_with fail
 rw[←hw2]
 try simp only[e2]
 clear hw2 e2
 refine (dir_c _ _ _ w2).mono ?_
 rintro e w3 ⟨rfl,hc3⟩
 obtain⟨w4,hw4⟩:∃w4,w4=w3.alloc (.cells #[.int .i64 1,.slice (some ⟨P2,0,none⟩) 1 1,.bool true,.slice none 0 0,.bool false] 68):=⟨_,rfl⟩
 obtain⟨P4,e4⟩:∃P4,w3.heap.size=P4:=⟨_,rfl⟩
 have hp4:CellsB w4 P4 [.int .i64 1,.slice (some ⟨P2,0,none⟩) 1 1,.bool true,.slice none 0 0,.bool false]:=by rw[hw4,←e4];exact CellsB.new w3 _ _
 have hc34:Calm w3 w4:=by rw[hw4];exact (Calm.refl _).alloc _
 have H4:Hid (SrvAt w4 (newSrv w)∧Calm w w4):=⟨H1.out.1.calm (hc3.trans hc34),H1.out.2.trans (hc3.trans hc34)⟩
 have HL:Hid (LinesU w4 (some ⟨P4,0,none⟩) [allLine]):=by
  have h2:=HP2.out.calm (hc3.trans hc34)
  refine⟨by decide,fun _=>⟨P4,0,rfl,hp4.lt,fun k r hr=>?_⟩⟩
  match k,hr with
  |0,hr=>
   obtain rfl:=Option.some.inj hr
   refine⟨⟨some ⟨P2,0,none⟩,1,none,0⟩,⟨hp4.at_ 0 _ rfl,hp4.at_ 1 _ rfl,hp4.at_ 2 _ rfl,hp4.at_ 3 _ rfl,hp4.at_ 4 _ rfl⟩,⟨⟨by decide,by decide,fun _=>⟨P2,0,rfl,h2.lt,fun k l hl=>?_⟩⟩,⟨by decide,by decide,fun h=>absurd h (Nat.lt_irrefl _)⟩,(show (1:Nat)≤1 from Nat.le_refl _),(show (0:Nat)≤0 from Nat.le_refl _),(show (1:Nat)≤9223372036854775807 by decide),(show (0:Nat)≤9223372036854775807 by decide)⟩⟩
   match k,hl with
   |0,hl=>
    obtain rfl:=Option.some.inj hl
    exact h2.at_ 0 _ rfl
 clear hp4 hc3 hc34
 go_upto_region 5 with (fail)
 rw[←hw4]
 try simp only[e4]
 clear hw4 e4
 go_wp2_with fail
 refine (cmStream (newSrv w) { cmd0 with kind:=1,sn:=mainN,SA:=some ⟨P4,0,none⟩,sl:=1,sc:=1 } w4 H4.out.1 rfl rfl rfl rfl rfl rfl rfl rfl HL.out).mono ?_
 rintro e w5 ⟨rfl,A5,c5,hw5⟩
 have H5:Hid (Went w4 (newSrv w) w5 { newSrv w with SA:=A5,sc:=c5,ss:=mainS }):=hw5
 clear hw5
 go_wp2_with fail
 refine (cmClient { newSrv w with SA:=A5,sc:=c5,ss:=mainS } { cmd0 with kind:=2,cl:=annN,nm:=mainN } _ (H5.out.at_.calm ((Calm.refl _).alloc _)) rfl rfl rfl (by decide) (by decide) (Nat.zero_le _) bs_0a).mono ?_
 rintro e w6 ⟨rfl,A6,c6,hw6⟩
 have H6:=Lib.hid (Went.trans (H5.out.calm ((Calm.refl _).alloc _)) hw6)
 clear hw6
 go_wp2_with fail
 refine (cmClient { newSrv w with SA:=A5,sc:=c5,ss:=mainS,CA:=A6,cc:=c6,cs:=[annN] } { cmd0 with kind:=2,cl:=bobN,nm:=mainN } _ (H6.out.at_.calm ((Calm.refl _).alloc _)) rfl rfl rfl (by decide) (by decide) (Nat.le_refl _) bs_1b).mono ?_
 rintro e w7 ⟨rfl,A7,c7,hw7⟩
 have H7:=Lib.hid (Went.trans (H6.out.calm ((Calm.refl _).alloc _)) hw7)
 clear hw7
 go_wp2_with fail
 refine (fine_c _ _ (by simp) (fun i hi=>?_)).mono ?_
 ·have:=(CellsB.new (w7.alloc (.cells #[.int .i64 0,.int .i64 0,.int .i64 0] 35)) #[.int .i64 0,.int .i64 0,.int .i64 0] 36).at_ i (.int .i64 0) (by match i,hi with | 0,_=>rfl | 1,_=>rfl | 2,_=>rfl)
  first
   |exact this
   |(rw[World.size_alloc] at this;exact this)
 rintro e w8 ⟨rfl,rfl⟩
 go_wp2_with fail
 go_ret
 have hnF:∀i,(newSrv w).F i→w.heap.size≤i:=fun i hi=>by
  rcases hi with hi | hi | hi | hi | hi
  ·have h:i=w.heap.size+2:=hi
   omega
  ·have h:i=w.heap.size+1:=hi
   omega
  ·have h:i=w.heap.size:=hi
   omega
  ·cases hi
  ·cases hi
 refine⟨⟨{ newSrv w with SA:=A5,sc:=c5,ss:=mainS,CA:=A7,cc:=c7,cs:=[annN,bobN] },rfl,H7.out.at_.calm (((Calm.refl _).alloc _).alloc _),⟨rfl,rfl,rfl,⟨rfl,rfl,rfl⟩,⟨rfl,rfl,rfl⟩,rfl,rfl,rfl⟩,fun i hi=>?_⟩,?_⟩
 ·rcases H7.out.far i hi with h | h
  ·exact hnF i h
  ·exact Nat.le_trans H4.out.2.size h
 ·exact ((Kp.calm' H4.out.2 H7.out.kp hnF).alloc _).alloc _
abbrev noDep:Value:=.agg #[.slice none 0 0,.slice none 0 0]
theorem topLog_c (p:ByteArray) (w:World):Calls Tryz.prog 87 #[noDep,.string p] w fun e w'=>e=.returned (.slice none 0 0)∧Calm w w':=by
 go_enter Tryz.func87,Tryz.ntmps87
 go_wp2_with fail
 go_loopw [5,11] (fun l i wr=>l=.slice none 0 0∧i=.int .i64 0∧Hid (Calm w wr)) (fun _ _ _=>0)
 case atStart=>exact⟨rfl,rfl,(Calm.refl _).alloc _⟩
 case round=>
  obtain⟨rfl,rfl,HW⟩:=hrel
  go_wp2_with fail
  go_ret
  exact⟨rfl,HW.out⟩
abbrev zRev:Value:=.agg #[.string ⟨#[]⟩,.int .i64 0,.int .i64 0,.int .i64 0,.int .i64 0,.bool false,.bool false,.bool false,.int .u64 0,.int .i64 0,.string ⟨#[]⟩,.int .i64 0]
set_option maxHeartbeats 4000000 in
theorem topLast_c (p:ByteArray) (w:World):Calls Tryz.prog 56 #[noDep,.string p] w fun e w'=>e=.returned (.tuple #[zRev,.bool false])∧Calm w w':=by
 obtain⟨w2,hw2⟩:∃w2,w2=(w.alloc (.cells #[.slice none 0 0,.slice none 0 0] 50)).alloc (.cells #[.string ⟨#[]⟩,.int .i64 0,.int .i64 0,.int .i64 0,.int .i64 0,.bool false,.bool false,.bool false,.int .u64 0,.int .i64 0,.string ⟨#[]⟩,.int .i64 0] 105):=⟨_,rfl⟩
 obtain⟨P4,e4⟩:∃P4,w.heap.size+1=P4:=⟨_,rfl⟩
 have h4:CellsB w2 P4 [.string ⟨#[]⟩,.int .i64 0,.int .i64 0,.int .i64 0,.int .i64 0,.bool false,.bool false,.bool false,.int .u64 0,.int .i64 0,.string ⟨#[]⟩,.int .i64 0]:=by
  rw[hw2,←e4]
  have:=CellsB.new (w.alloc (.cells #[.slice none 0 0,.slice none 0 0] 50)) #[.string ⟨#[]⟩,.int .i64 0,.int .i64 0,.int .i64 0,.int .i64 0,.bool false,.bool false,.bool false,.int .u64 0,.int .i64 0,.string ⟨#[]⟩,.int .i64 0] 105
  rwa [World.size_alloc] at this
 have HC:Hid (Calm w w2):=by
  show Calm w w2
  rw[hw2]
  exact ((Calm.refl _).alloc _).alloc _
 have H4:=Lib.hid h4
 have HW:=Lib.hid (And.intro hw2 e4)
 have HL:Hid (w.heap.size≤P4):=by show _≤_;omega
 clear hw2 e4 h4
 go_enter Tryz.func56,Tryz.ntmps56
 go_wp2_with fail
 rw[←HW.out.1]
 simp only[HW.out.2]
 refine (topLog_c p w2).mono ?_
 rintro e w3 ⟨rfl,hc3⟩
 have h:=H4.out.calm hc3
 have HC3:Hid (Calm w w3):=HC.out.trans hc3
 have z0:=h.at_ 0 _ rfl
 have z1:=h.at_ 1 _ rfl
 have z2:=h.at_ 2 _ rfl
 have z3:=h.at_ 3 _ rfl
 have z4:=h.at_ 4 _ rfl
 have z5:=h.at_ 5 _ rfl
 have z6:=h.at_ 6 _ rfl
 have z7:=h.at_ 7 _ rfl
 have z8:=h.at_ 8 _ rfl
 have z9:=h.at_ 9 _ rfl
 have z10:=h.at_ 10 _ rfl
 have z11:=h.at_ 11 _ rfl
 have f0:=h.fz 0
 have f1:=h.fz 1
 have f2:=h.fz 2
 have f3:=h.fz 3
 have f4:=h.fz 4
 have f5:=h.fz 5
 have f6:=h.fz 6
 have f7:=h.fz 7
 have f8:=h.fz 8
 have f9:=h.fz 9
 have f10:=h.fz 10
 have f11:=h.fz 11
 have lz:=h.lt
 clear h hc3
 go_wp2_with fail
 refine bodyPost_ret (v:=.tuple #[zRev,.bool false]) ?_ rfl ⟨rfl,?_⟩
 ·rw[results_cell_slot rfl]
  go_simp
 ·exact calm_set12 HC3.out HL.out _ _ _ _ _ _ _ _ _ _ _ _
set_option maxHeartbeats 4000000 in
theorem topLive_c (p:ByteArray) (w:World):Calls Tryz.prog 20 #[noDep,.string p] w fun e w'=>e=.returned (.tuple #[.bool false,.int .i64 0])∧Calm w w':=by
 go_enter Tryz.func20,Tryz.ntmps20
 go_wp2_with fail
 refine (topLast_c p _).mono ?_
 rintro e w3 ⟨rfl,hc3⟩
 have HC3:Hid (Calm w w3):=((Calm.refl _).alloc _).trans hc3
 clear hc3
 go_upto_region 2 with (fail)
 go_quiet (fail)
 all_goals
  go_wp2_with fail
  go_ret2
  exact⟨rfl,(HC3.out.alloc _).drewN _⟩
abbrev topV (p:Str) (f:Int):Value:=.agg #[.string (bs p),.int .i64 1,.int .i64 2,.bool false,.bool true,.bool false,.int .u64 5,.int .i64 1,.int .i64 0,.string ⟨#[]⟩,.int .i64 0,.int .i64 f]
set_option maxRecDepth 100000 in
set_option maxHeartbeats 8000000 in
theorem topEdit_c (p:Str) (f:Int) (w:World):Calls Tryz.prog 9 #[noDep,.string (bs p),.int .i64 f] w fun e w'=>e=.returned (topV p f)∧Calm w w':=by
 obtain⟨w2,hw2⟩:∃w2,w2=(w.alloc (.cells #[.slice none 0 0,.slice none 0 0] 50)).alloc (.cells #[.string ⟨#[]⟩,.int .i64 0,.int .i64 0,.bool false,.bool false,.bool false,.int .u64 0,.int .i64 0,.int .i64 0,.string ⟨#[]⟩,.int .i64 0,.int .i64 0] 32):=⟨_,rfl⟩
 obtain⟨P4,e4⟩:∃P4,w.heap.size+1=P4:=⟨_,rfl⟩
 have h4:CellsB w2 P4 [.string ⟨#[]⟩,.int .i64 0,.int .i64 0,.bool false,.bool false,.bool false,.int .u64 0,.int .i64 0,.int .i64 0,.string ⟨#[]⟩,.int .i64 0,.int .i64 0]:=by
  rw[hw2,←e4]
  have:=CellsB.new (w.alloc (.cells #[.slice none 0 0,.slice none 0 0] 50)) #[.string ⟨#[]⟩,.int .i64 0,.int .i64 0,.bool false,.bool false,.bool false,.int .u64 0,.int .i64 0,.int .i64 0,.string ⟨#[]⟩,.int .i64 0,.int .i64 0] 32
  rwa [World.size_alloc] at this
 have h3:CellsB w2 w.heap.size [.slice none 0 0,.slice none 0 0]:=by
  rw[hw2]
  exact (CellsB.new w #[.slice none 0 0,.slice none 0 0] _).calm ((Calm.refl _).alloc _)
 have HC:Hid (Calm w w2):=by
  show Calm w w2
  rw[hw2]
  exact ((Calm.refl _).alloc _).alloc _
 have H4:=Lib.hid h4
 have HW:=Lib.hid (And.intro hw2 e4)
 have HL:Hid (w.heap.size≤P4):=by show _≤_;omega
 have y0:=h3.at_ 0 _ rfl
 have y1:=h3.at_ 1 _ rfl
 have ly:=h3.lt
 clear hw2 e4 h4 h3
 go_enter Tryz.func9,Tryz.ntmps9
 go_upto_region 1 with (fail)
 rw[←HW.out.1]
 try simp only[HW.out.2]
 go_wp2_with fail
 refine (topLive_c (bs p) w2).mono ?_
 rintro e w3 ⟨rfl,hc3⟩
 have HC3:Hid (Calm w w3):=HC.out.trans hc3
 have h:=H4.out.calm (hc3.trans ((Calm.refl w3).alloc (.cells #[.string (bs p),.int .i64 1,.int .i64 2,.bool false,.bool true,.bool false,.int .u64 5,.int .i64 1,.int .i64 0,.string ⟨#[]⟩,.int .i64 0,.int .i64 f] 32)))
 have z0:=h.at_ 0 _ rfl
 have f0:=h.fz 0
 have z1:=h.at_ 1 _ rfl
 have f1:=h.fz 1
 have z2:=h.at_ 2 _ rfl
 have f2:=h.fz 2
 have z3:=h.at_ 3 _ rfl
 have f3:=h.fz 3
 have z4:=h.at_ 4 _ rfl
 have f4:=h.fz 4
 have z5:=h.at_ 5 _ rfl
 have f5:=h.fz 5
 have z6:=h.at_ 6 _ rfl
 have f6:=h.fz 6
 have z7:=h.at_ 7 _ rfl
 have f7:=h.fz 7
 have z8:=h.at_ 8 _ rfl
 have f8:=h.fz 8
 have z9:=h.at_ 9 _ rfl
 have f9:=h.fz 9
 have z10:=h.at_ 10 _ rfl
 have f10:=h.fz 10
 have z11:=h.at_ 11 _ rfl
 have f11:=h.fz 11
 have lz:=h.lt
 have hne:¬w3.heap.size=P4:=by have:=(H4.out.calm hc3).lt;omega
 clear h hc3 y0 y1 ly
 go_wp2_with fail
 refine bodyPost_ret (v:=topV p f) ?_ rfl ⟨rfl,?_⟩
 ·rw[results_cell1 rfl]
  go_simp
 ·exact calm_set12 (HC3.out.alloc _) HL.out _ _ _ _ _ _ _ _ _ _ _ _
end Go.Proofs.YtcofdlipapnohaaGreatDoor
namespace Go.Proofs.YtcofdlipapnohaaGreatDoor
open Go Go.RowKit Go.Maps Go.Sort Go.Shelf Sy
theorem lsValues_gives (n:Nat) (hn:1≤n) (Bm b nn:Nat) (D0:DataW Value) (hD:DEnt D0) (w:World) (hBm:Bm < w.heap.size) (hm:w.cell? ⟨Bm,0,none⟩=some (.map (some b))) (hown:w.ownsMap Tryz.prog 9 heldR b nn D0) :
  SeqGives Fence.wide n Tryz.prog 85 #[.pointer (some ⟨Bm,0,none⟩)] lseV (fun xs=>xs.length≤Maps.size D0) (Maps.size D0) w:=fun l J W hW hJ hY h0=>by
 have hown':W.ownsMap Tryz.prog 9 heldR b nn D0:=by
  have hbl:=hown.lt
  obtain⟨es,clock,hb,Ft,hs,hD⟩:=hown
  exact⟨es,clock,(hW.block b hbl).trans hb,Ft,hs,hD⟩
 exact lsValues1_in n hn l Bm b nn D0 hD J hY W hJ ((hW.cell (p:=⟨Bm,0,none⟩) hBm).trans hm) hown' h0
set_option maxHeartbeats 4000000 in
theorem lsValues_c (mb:Option Nat) (w:World):Calls Tryz.prog 54 #[.map mb] w fun e w'=>e=.returned (.func (.func 85) #[] #[.pointer (some ⟨w.heap.size,0,none⟩)])∧Hid (w'=w.alloc (.cells #[.map mb] 116)):=by
 go_enter Tryz.func54,Tryz.ntmps54
 go_wp2_with fail
 go_ret
 exact⟨rfl,rfl⟩
set_option maxHeartbeats 4000000 in
theorem lsIns_c (A:Option Addr) (n c:Nat) (f:Value) (w:World) (hn:n≤1):Calls Tryz.prog 151 #[.slice A n c,.int .i64 0,.int .i64 (n:Int),f] w fun e w'=>e=.returned (.tuple #[])∧w=w':=by
 have h1:¬(1:Int) < (n:Int):=by omega
 go_enter Tryz.func151,Tryz.ntmps151
 go_wp2_with fail
 go_loopw [8] (fun i wr=>i=.int .i64 1∧wr=w) (fun _ _=>0)
 case atStart=>exact⟨rfl,rfl⟩
 case round=>
  obtain⟨rfl,rfl⟩:=hrel
  go_wp2_with fail
  exact bodyPost_end (v:=.tuple #[]) (results_none rfl _ _ _) rfl ⟨rfl,rfl⟩
set_option maxRecDepth 100000 in
set_option maxHeartbeats 4000000 in
theorem lsPdq_c (A:Option Addr) (n c:Nat) (k:Int) (f:Value) (w:World) (hn:n≤1):Calls Tryz.prog 120 #[.slice A n c,.int .i64 0,.int .i64 (n:Int),.int .i64 k,f] w fun e w'=>e=.returned (.tuple #[])∧w=w':=by
 have h1:(n:Int)≤12:=by omega
 have KI:=Lib.hid (lsIns_c A n c f w hn)
 go_enter Tryz.func120,Tryz.ntmps120
 go_wp2_with fail
 go_loopw [1,2,3,10,11] (fun a b l x y wr=>a=.int .i64 0∧b=.int .i64 (n:Int)∧wr=w) (fun _ _ _ _ _ _=>0)
 case atStart=>exact⟨rfl,rfl,rfl⟩
 case round=>
  obtain⟨rfl,rfl,rfl⟩:=hrel
  go_wp2_with fail
  refine KI.out.mono ?_
  rintro e w' ⟨rfl,rfl⟩
  go_wp2_with fail
  exact bodyPost_ret (v:=.tuple #[]) (results_none rfl _ _ _) rfl ⟨rfl,rfl⟩
set_option maxHeartbeats 4000000 in
theorem lsSort_c (A:Option Addr) (n c:Nat) (f:Value) (w:World) (hn:n≤1):Calls Tryz.prog 84 #[.slice A n c,f] w fun e w'=>e=.returned (.tuple #[])∧w=w':=by
 have KI:=Lib.hid fun (k:Int)=>lsPdq_c A n c k f w hn
 have KB:=Lib.hid (Tryz.bits_Len (n:Int) w (by omega) (by omega))
 go_enter Tryz.func84,Tryz.ntmps84
 go_wp2_with fail
 refine KB.out.mono ?_
 rintro e w' ⟨rfl,rfl⟩
 go_wp2_with fail
 refine (KI.out _).mono ?_
 rintro e w' ⟨rfl,rfl⟩
 go_wp2_with fail
 exact bodyPost_end (v:=.tuple #[]) (results_none rfl _ _ _) rfl ⟨rfl,rfl⟩
theorem read_lsrow {w:World} {A:Option Addr} {l:List Lse} (h:ReadX encLs 5 w A l):ReadX RowK.vs 5 w A (l.map Lse.row):=fun hne=>by
 obtain⟨b,o,hA,hb,hk⟩:=h (fun e=>hne (by rw[e];rfl))
 refine⟨b,o,hA,hb,fun k x hx i u hu=>?_⟩
 rw[List.getElem?_map] at hx
 obtain⟨y,hy,rfl⟩:=Option.map_eq_some_iff.1 hx
 exact hk k y hy i u hu
set_option maxHeartbeats 4000000 in
theorem all_c (T M k:Nat) (D:DataW Value) (w:World) (hz:CellsB w T [.int .i64 0,.map (some M)]) (hm:MapH w M k D) (hD:DEnt D) (hs:Maps.size D≤1) :
  Calls Tryz.prog 19 #[.pointer (some ⟨T,0,none⟩)] w fun e w'=>(∃A n c ls,e=.returned (.slice A n c)∧n≤1∧ls.length=n∧ReadX (RowK.vs (K:=5)) 5 w' A ls)∧Calm w w':=by
 have KV:=Lib.hid (lsValues_c (some M) w)
 have t1:=hz.at_ 1 _ rfl
 have lT:=hz.lt
 have KS:Hid (∀W,W=w.alloc (.cells #[.map (some M)] 116)→Calls Tryz.prog 53 #[.func (.func 85) #[] #[.pointer (some ⟨w.heap.size,0,none⟩)],.func (.func 55) #[] #[]] W fun e w'=>(∃A n c ls,e=.returned (.slice A n c)∧n≤1∧ls.length=n∧ReadX (RowK.vs (K:=5)) 5 w' A ls)∧Calm W w'):=fun W hW=>by
  have hg:SeqGives Fence.wide (9 - 1 - 1) Tryz.prog 85 #[.pointer (some ⟨w.heap.size,0,none⟩)] lseV (fun xs=>xs.length≤Maps.size D) (Maps.size D) W:=by
   refine lsValues_gives _ (by decide) w.heap.size M k D hD W ?_ ?_ ?_
   ·rw[hW];simp
   ·rw[hW]
    exact (CellsB.new w #[.map (some M)] 116).at_ 0 _ rfl
   ·rw[hW]
    exact MapH.calm hm ((Calm.refl _).alloc _)
  have KC:=Lib.hid ((callsIn_wide (n:=9)).1 (lsCollect_in 9 (by decide) _ _ (fun args W=>enters_of Tryz.func85 (by kernel_rfl) rfl args W) _ (Maps.size D) (by omega) W hg))
  clear hg hm hz hW
  go_enter Tryz.func53,Tryz.ntmps53
  go_wp2_with fail
  refine KC.out.mono ?_
  rintro e w5 ⟨v,ss,rfl,hS,hrow,hb⟩
  have hsh:∃A c,v=.slice A ss.length c:=by
   rcases hrow.2 with⟨h1,h2⟩ | ⟨g,cap,_,h1,_⟩
   ·exact⟨none,0,by rw[h2];exact h1⟩
   ·exact⟨_,cap,h1⟩
  obtain⟨A,c,rfl⟩:=hsh
  obtain⟨n,hn⟩:∃n,ss.length=n:=⟨_,rfl⟩
  rw[hn] at hrow ⊢
  have hn1:n≤1:=by have h:ss.length≤Maps.size D:=hS;omega
  have HR:Hid (ReadX (RowK.vs (K:=5)) 5 w5 A (ss.map Lse.row)∧Calm W w5∧ss.length=n):=⟨read_lsrow (owns_read encLs_len (by decide) hrow),hb,hn⟩
  clear hS hrow hb hn
  go_wp2_with fail
  refine (lsSort_c A n c _ w5 hn1).mono ?_
  rintro e w' ⟨rfl,rfl⟩
  go_wp2_with fail
  go_ret
  exact⟨⟨A,n,c,ss.map Lse.row,rfl,hn1,by rw[List.length_map];exact HR.out.2.2,HR.out.1⟩,HR.out.2.1⟩
 clear hz hm hD hs
 go_enter Tryz.func19,Tryz.ntmps19
 go_wp2_with fail
 refine KV.out.mono ?_
 rintro e w2 ⟨rfl,hw2⟩
 have K2:=Lib.hid (KS.out w2 hw2.out)
 have HC:Hid (Calm w w2):=by
  show Calm w w2
  rw[hw2.out]
  exact (Calm.refl _).alloc _
 clear KS hw2
 go_wp2_with fail
 refine K2.out.mono ?_
 rintro e w5 ⟨⟨A,n,c,ls,rfl,hn1,hl,hr⟩,hc⟩
 have HR:=Lib.hid (And.intro hn1 (And.intro hl (And.intro hr hc)))
 clear hn1 hl hr hc
 go_wp2_with fail
 go_ret
 exact⟨⟨A,n,c,ls,rfl,HR.out.1,HR.out.2.1,HR.out.2.2.1⟩,HC.out.trans HR.out.2.2.2⟩
theorem now_c (T:Nat) (m:Value) (w:World) (hz:CellsB w T [.int .i64 0,m]):Calls Tryz.prog 18 #[.pointer (some ⟨T,0,none⟩)] w fun e w'=>e=.returned (.int .i64 0)∧w=w':=by
 have t0:=hz.at_ 0 _ rfl
 have lT:=hz.lt
 clear hz
 go_enter Tryz.func18,Tryz.ntmps18
 go_wp2_with fail
 go_ret
 exact⟨rfl,rfl⟩
end Go.Proofs.YtcofdlipapnohaaGreatDoor
namespace Go.Proofs.YtcofdlipapnohaaGreatDoor
open Go Go.RowKit Sy
set_option maxRecDepth 100000 in
set_option maxHeartbeats 16000000 in
theorem state_c (x:Srv) (w:World) (h:SrvAt w x) (hss:x.ss=mainS) (hcs:x.cs.length≤16) (hrs:x.rs.length≤100000) (hhs:x.hs.length≤1) (hps:x.ps.length≤1) (hpl:∀p∈x.ps,p.l.length≤64) (hcl:∀c∈x.hs,c.l.length≤64) (hD:DEnt x.D) (hsz:Maps.size x.D≤1) :
  Calls Tryz.prog 7 #[.pointer (some ⟨x.S,0,none⟩)] w fun e w'=>(∃ln,StEnd w 0 x.tk x.cs.length x.rs.length x.hs.length x.ps.length ln x.hs x.ps e w')∧Calm w w':=by
 obtain⟨cn,hcn⟩:∃cn,x.cs.length=cn:=⟨_,rfl⟩
 obtain⟨rn,hrn⟩:∃rn,x.rs.length=rn:=⟨_,rfl⟩
 obtain⟨hn,hhn⟩:∃hn,x.hs.length=hn:=⟨_,rfl⟩
 obtain⟨pn,hpn⟩:∃pn,x.ps.length=pn:=⟨_,rfl⟩
 rw[hcn] at hcs
 rw[hrn] at hrs
 rw[hhn] at hhs
 rw[hpn] at hps
 rw[hcn,hrn,hhn,hpn]
 have HSX:Hid (∀W,Calm w W→W.cell? ⟨x.S,0,none⟩=some (.pointer (some ⟨x.T,0,none⟩))∧W.cell? ⟨x.S,1,none⟩=some (.int .i64 x.tk)∧W.cell? ⟨x.S,2,none⟩=some (.slice x.SA 1 x.sc)∧W.cell? ⟨x.S,3,none⟩=some (.slice x.CA cn x.cc)∧W.cell? ⟨x.S,4,none⟩=some (.slice x.RA rn x.rc)∧W.cell? ⟨x.S,5,none⟩=some (.slice none 0 0)∧W.cell? ⟨x.S,6,none⟩=some (.slice x.HA hn x.hc)∧W.cell? ⟨x.S,7,none⟩=some (.slice x.PA pn x.pc)):=fun W hW=>by
  have z:=(h.calm hW).z
  have z2:=z.at_ 2 _ rfl
  have z3:=z.at_ 3 _ rfl
  have z4:=z.at_ 4 _ rfl
  have z6:=z.at_ 6 _ rfl
  have z7:=z.at_ 7 _ rfl
  rw[hss] at z2
  rw[hcn] at z3
  rw[hrn] at z4
  rw[hhn] at z6
  rw[hpn] at z7
  exact⟨z.at_ 0 _ rfl,z.at_ 1 _ rfl,z2,z3,z4,z.at_ 5 _ rfl,z6,z7⟩
 have KN:Hid (∀W,Calm w W→Calls Tryz.prog 18 #[.pointer (some ⟨x.T,0,none⟩)] W fun e w'=>e=.returned (.int .i64 0)∧W=w'):=fun W hW=>now_c x.T _ W (h.calm hW).t
 have KA:Hid (∀W,Calm w W→Calls Tryz.prog 19 #[.pointer (some ⟨x.T,0,none⟩)] W fun e w'=>(∃A n c ls,e=.returned (.slice A n c)∧n≤1∧ls.length=n∧ReadX (RowK.vs (K:=5)) 5 w' A ls)∧Calm W w'):=fun W hW=>all_c x.T x.M x.k x.D W (h.calm hW).t (h.calm hW).m hD hsz
 have KC:Hid (∀W LA ln lc (ls:List (RowK 5)),Calm w W→ReadX (RowK.vs (K:=5)) 5 W LA ls→ls.length=ln→ln≤1→Calls Tryz.prog 17 #[.agg #[.int .i64 0,.int .i64 x.tk,.slice x.SA 1 x.sc,.slice x.CA cn x.cc,.slice x.RA rn x.rc,.slice none 0 0,.slice x.HA hn x.hc,.slice x.PA pn x.pc,.slice LA ln lc]] W fun e w'=>StEnd W 0 x.tk cn rn hn pn ln x.hs x.ps e w'∧Calm W w'):=fun W LA ln lc ls hW hr hl h1=>by
  have g:=h.calm hW
  have hst:=g.str.now
  rw[hss] at hst
  exact copyState_c 0 x.tk x.SA x.CA x.RA x.HA x.PA LA x.sc x.cc x.rc x.hc x.pc lc cn rn hn pn ln x.cs x.rs x.hs x.ps ls W hst ⟨g.cls,hcn,hcs⟩ ⟨g.rev.now,hrn,hrs⟩ ⟨g.chg.now,hhn,hhs,fun y hy=>⟨(g.ceds y hy).now,hcl y hy⟩⟩
   ⟨owns_read encPn_len (by decide) g.pn,hpn,hps,fun y hy=>⟨(g.eds y hy).now,hpl y hy⟩⟩ ⟨hr,hl,by omega⟩
 obtain⟨w1,hw1⟩:∃w1,w1=w.alloc (.cells #[.int .i64 0,.int .i64 0,.slice none 0 0,.slice none 0 0,.slice none 0 0,.slice none 0 0,.slice none 0 0,.slice none 0 0,.slice none 0 0] 55):=⟨_,rfl⟩
 obtain⟨P2,e2⟩:∃P2,w.heap.size=P2:=⟨_,rfl⟩
 have hp2:CellsB w1 P2 [.int .i64 0,.int .i64 0,.slice none 0 0,.slice none 0 0,.slice none 0 0,.slice none 0 0,.slice none 0 0,.slice none 0 0,.slice none 0 0]:=by
  rw[hw1,←e2]
  exact CellsB.new w _ _
 have HC1:Hid (Calm w w1):=by
  show Calm w w1
  rw[hw1]
  exact (Calm.refl _).alloc _
 have HP2:=Lib.hid (fun (W:World) (hW:Calm w1 W)=>hp2.calm hW)
 have HE2:Hid (w.heap.size≤P2∧P2 < w1.heap.size):=⟨by omega,hp2.lt⟩
 have HW:=Lib.hid (And.intro hw1 e2)
 have lS:=h.z.lt
 have lS1:x.S < w1.heap.size:=Nat.lt_of_lt_of_le lS HC1.out.size
 obtain⟨s0,s1,s2,s3,s4,s5,s6,s7⟩:=HSX.out w1 HC1.out
 clear h hss hcs hrs hhs hps hpl hcl hD hsz hcn hrn hhn hpn hw1 e2 hp2
 go_enter Tryz.func7,Tryz.ntmps7
 go_upto_region 1 with (fail)
 rw[←HW.out.1]
 simp only[HW.out.2]
 go_region_held3 (fun W=>W.cell? ⟨x.S,0,none⟩=some (.pointer (some ⟨x.T,0,none⟩))∧W.cell? ⟨x.S,1,none⟩=some (.int .i64 x.tk)∧W.cell? ⟨x.S,2,none⟩=some (.slice x.SA 1 x.sc)∧W.cell? ⟨x.S,3,none⟩=some (.slice x.CA cn x.cc)∧W.cell? ⟨x.S,4,none⟩=some (.slice x.RA rn x.rc)∧W.cell? ⟨x.S,5,none⟩=some (.slice none 0 0)∧W.cell? ⟨x.S,6,none⟩=some (.slice x.HA hn x.hc)∧W.cell? ⟨x.S,7,none⟩=some (.slice x.PA pn x.pc))
  (first
   |with_reducible exact HSX.out _ (calm_set9 hcy HE2.out.1 _ _ _ _ _ _ _ _ _)
   |with_reducible exact HSX.out _ hcy
   |with_reducible exact HSX.out _ hcx
   |with_reducible exact HSX.out _ HC1.out
   |with_reducible exact HSX.out _ (Below.drew HC1.out)
   |go_keep)
  (first
   |(go_at_call 18;refine (KN.out _ (by first | with_reducible exact HC1.out | with_reducible exact Below.drew HC1.out | with_reducible exact hcx)).mono ?_;rintro e w3 ⟨rfl,rfl⟩)
   |(go_at_call 19;refine (KA.out _ (by first | with_reducible exact HC1.out | with_reducible exact Below.drew HC1.out)).mono ?_;rintro e w5 ⟨⟨LA,ln,lc,ls,rfl,hl1,hl2,hl3⟩,hc5⟩;have hcx:Calm w w5:=Calm.trans (by first | with_reducible exact HC1.out | with_reducible exact Below.drew HC1.out) hc5;have hc15:Calm w1 w5:=Calm.trans (by first | with_reducible exact Calm.refl _ | with_reducible exact Below.drew (Calm.refl _)) hc5;have HLs:=Lib.hid (And.intro hl3 (And.intro hl2 hl1));clear hl1 hl2 hl3 hc5)
   |(go_at_call 17;refine (KC.out _ LA ln lc ls hcx HLs.out.1 HLs.out.2.1 HLs.out.2.2).mono ?_;rintro e w6 ⟨hE,hc6⟩;obtain⟨B2,d2,B3,d3,B4,d4,B6,d6,B7,d7,B8,d8,rfl,hch,hpn⟩:=hE;have hcy:Calm w w6:=hcx.trans hc6;have hp6:=HP2.out w6 (hc15.trans hc6);have y0:=hp6.at_ 0 _ rfl;have f0:=hp6.fz 0;have y1:=hp6.at_ 1 _ rfl;have f1:=hp6.fz 1;have y2:=hp6.at_ 2 _ rfl;have f2:=hp6.fz 2;have y3:=hp6.at_ 3 _ rfl;have f3:=hp6.fz 3;have y4:=hp6.at_ 4 _ rfl;have f4:=hp6.fz 4;have y5:=hp6.at_ 5 _ rfl;have f5:=hp6.fz 5;have y6:=hp6.at_ 6 _ rfl;have f6:=hp6.fz 6;have y7:=hp6.at_ 7 _ rfl;have f7:=hp6.fz 7;have y8:=hp6.at_ 8 _ rfl;have f8:=hp6.fz 8;have lp:=hp6.lt;have HEnd:=Lib.hid (And.intro hch (And.intro hpn hc15));clear hch hpn hp6 hc6))
 all_goals
  go_wp2_with fail
  refine bodyPost_ret (v:=.agg #[.int .i64 0,.int .i64 x.tk,.slice B2 1 d2,.slice B3 cn d3,.slice B4 rn d4,.slice none 0 0,.slice B6 hn d6,.slice B7 pn d7,.slice B8 ln d8]) ?_ rfl ⟨⟨ln,B2,d2,B3,d3,B4,d4,B6,d6,B7,d7,B8,d8,rfl,?_,?_⟩,?_⟩
  ·rw[results_cell1 rfl]
   go_simp
  ·obtain⟨hs',h1,h2,h3⟩:=HEnd.out.1
   have hle:w1.heap.size≤w5.heap.size:=HEnd.out.2.2.size
   have kf:Kp (fun i=>i < w5.heap.size) w6 (w6.setCells P2 0 [.int .i64 0,.int .i64 x.tk,.slice B2 1 d2,.slice B3 cn d3,.slice B4 rn d4,.slice none 0 0,.slice B6 hn d6,.slice B7 pn d7,.slice B8 ln d8]):=Kp.sets (F:=fun i=>i < w5.heap.size) (Kp.refl _ _) (g:=P2) (.inl (show P2 < w5.heap.size from Nat.lt_of_lt_of_le HE2.out.2 hle)) 0 _
   have hlw:∀i,i < w.heap.size→i < w5.heap.size:=fun i hi=>Nat.lt_of_lt_of_le hi hcx.size
   exact⟨hs',h1,h2.kp' kf (fun i hi=>.inl (hlw i hi)),fun k a b ha hb=>⟨(h3 k a b ha hb).1,(h3 k a b ha hb).2.kp' kf (fun i hi=>.inl (hlw i hi))⟩⟩
  ·obtain⟨ps',h1,h2,h3⟩:=HEnd.out.2.1
   have hle:w1.heap.size≤w5.heap.size:=HEnd.out.2.2.size
   have kf:Kp (fun i=>i < w5.heap.size) w6 (w6.setCells P2 0 [.int .i64 0,.int .i64 x.tk,.slice B2 1 d2,.slice B3 cn d3,.slice B4 rn d4,.slice none 0 0,.slice B6 hn d6,.slice B7 pn d7,.slice B8 ln d8]):=Kp.sets (F:=fun i=>i < w5.heap.size) (Kp.refl _ _) (g:=P2) (.inl (show P2 < w5.heap.size from Nat.lt_of_lt_of_le HE2.out.2 hle)) 0 _
   have hlw:∀i,i < w.heap.size→i < w5.heap.size:=fun i hi=>Nat.lt_of_lt_of_le hi hcx.size
   exact⟨ps',h1,h2.kp' kf (fun i hi=>.inl (hlw i hi)),fun k a b ha hb=>⟨(h3 k a b ha hb).1,(h3 k a b ha hb).2.kp' kf (fun i hi=>.inl (hlw i hi))⟩⟩
  ·exact calm_set9 hcy HE2.out.1 _ _ _ _ _ _ _ _ _
def exY:Edt:=⟨xPath,1,2,false,true,false,5,1,0,[],0,1⟩
theorem exY_suit:suitE none [exY]=0:=by decide +kernel
theorem exY_no:subE (fun _=>false) [exY]=215:=by decide +kernel
theorem exY_yes:subE (fun _=>true) [exY]=0:=by decide +kernel
structure Mid (x:Srv) (t:Int):Prop where
 ss:x.ss=mainS
 cs:x.cs=[annN,bobN]
 tk:x.tk=t
 rs:x.rs=[]∧x.RA=none∧x.rc=0
 hs:x.hs=[]∧x.HA=none∧x.hc=0
 ps:x.ps=[]
theorem MaxL.kp {F:Nat→Prop} {w w':World} (h:MaxL w) (k:Kp F w w') (hF:¬F 0):MaxL w':=
 ⟨Nat.lt_of_lt_of_le h.lt k.size,by
  obtain⟨m,hm⟩:=h.at_
  exact⟨m,k.cell hm hF⟩⟩
structure PutX (w:World) (x:Srv) (q:Bool) (w':World) (x':Srv):Prop where
 went:Went w x w' x'
 same:x'.S=x.S∧x'.T=x.T∧x'.M=x.M∧x'.k=x.k∧x'.D=x.D
 ss:x'.ss=mainS
 cs:x'.cs=[annN,bobN]
 tk:x'.tk=x.tk+1
 ps:x'.ps=[]
 no:q=false→(x'.rs=[]∧x'.RA=none∧x'.rc=0)∧(x'.hs=[]∧x'.HA=none∧x'.hc=0)
 yes:q=true→x'.hs.length=1∧(∀c∈x'.hs,c.l.length≤64)∧x'.rs.length≤64
abbrev tpV:Value:=topV xPath 1
set_option maxRecDepth 100000 in
set_option maxHeartbeats 16000000 in
theorem put_c (x:Srv) (t:Int) (q:Bool) (w:World) (h:SrvAt w x) (m:Mid x t) (ht:0≤t∧t≤100) (hG:∀i,x.F i→0 < i) (hM:MaxL w)
  (HQ:∀W y,SrvAt W y→y.T=x.T→y.M=x.M→y.k=x.k→y.D=x.D→Calls Tryz.prog 110 #[.pointer (some ⟨y.T,0,none⟩),.string (bs xPath),.string (bs annN),.int .i64 1] W fun e w'=>e=.returned (.bool q)∧Calm W w') :
  Calls Tryz.prog 8 #[.pointer (some ⟨x.S,0,none⟩),.string (bs annN),tpV] w fun e w'=>e=.returned (.int .i64 (if q then 0 else 215))∧∃x',PutX w x q w' x':=by
 obtain⟨w1,hw1⟩:∃w1,w1=w.alloc (.cells (encEd exY).toArray 32):=⟨_,rfl⟩
 obtain⟨P5,e5⟩:∃P5,w.heap.size=P5:=⟨_,rfl⟩
 have hp5:CellsB w1 P5 (encEd exY):=by rw[hw1,←e5];exact CellsB.new w _ _
 have HC1:Hid (Calm w w1):=by
  show Calm w w1
  rw[hw1]
  exact (Calm.refl _).alloc _
 have HP5:=Lib.hid hp5
 have HS1:=Lib.hid (h.calm HC1.out)
 have HO5:Hid (¬x.F P5):=fun hf=>by have:=h.lt P5 hf;omega
 have HW:=Lib.hid (And.intro hw1 e5)
 have HM1:=Lib.hid (hM.calm HC1.out)
 have HSv:=Lib.hid h
 have HMd:=Lib.hid m
 have HGl:=Lib.hid hG
 have HQ':=Lib.hid HQ
 have hlen2:x.cs.length≤2:=by rw[m.cs];decide
 have KNew:=Lib.hid (cmNew x { cmd0 with kind:=3,cl:=annN } w1 HS1.out rfl hlen2 (by rw[m.cs];decide) m.ps (by rw[m.tk];omega) (by decide))
 obtain⟨tt,htt⟩:∃tt,x.tk+1=tt:=⟨_,rfl⟩
 have hpn:newPn x { cmd0 with kind:=3,cl:=annN }=⟨tt,annN,[],false,none,0,[]⟩:=by unfold newPn;rw[htt];rfl
 rw[htt,hpn] at KNew
 have HT:=Lib.hid htt
 have h2:=Lib.hid hlen2
 clear h m ht hG hM HQ hw1 e5 hp5 hlen2 htt hpn
 go_enter Tryz.func8,Tryz.ntmps8
 go_upto_region 1 with (fail)
 have hwx:w.alloc (.cells #[.string (bs xPath),.int .i64 1,.int .i64 2,.bool false,.bool true,.bool false,.int .u64 5,.int .i64 1,.int .i64 0,.string ⟨#[]⟩,.int .i64 0,.int .i64 1] 32)=w1:=HW.out.1.symm
 rw[hwx]
 clear hwx
 try simp only[HW.out.2]
 go_wp2_with fail
 refine KNew.out.mono ?_
 rintro e w2 ⟨rfl,PA,pc,hw2⟩
 obtain⟨w3,hw3⟩:∃w3,w3=w2.alloc (.cells #[.int .i64 tt,.int .i64 0,.int .i64 0] 35):=⟨_,rfl⟩
 obtain⟨P7,e7⟩:∃P7,w2.heap.size=P7:=⟨_,rfl⟩
 have hp7:CellsB w3 P7 [.int .i64 tt,.int .i64 0,.int .i64 0]:=by rw[hw3,←e7];exact CellsB.new w2 _ _
 have hoff7:¬({ x with tk:=tt,PA:=PA,pc:=pc,ps:=[⟨tt,annN,[],false,none,0,[]⟩] }:Srv).F P7:=fun hf=>by have:=hw2.at_.lt P7 hf;omega
 have hw3':Went w1 x w3 { x with tk:=tt,PA:=PA,pc:=pc,ps:=[⟨tt,annN,[],false,none,0,[]⟩] }:=by rw[hw3];exact hw2.calm ((Calm.refl _).alloc _)
 have H3:=Lib.hid (And.intro hw3' hoff7)
 have HP7:=Lib.hid hp7
 have hp5:=HP5.out.kp hw3'.kp HO5.out
 have HP53:=Lib.hid hp5
 have s0:=hp7.at_ 0 _ rfl
 have l7:=hp7.lt
 have c0:=hp5.at_ 0 _ rfl
 have c1:=hp5.at_ 1 _ rfl
 have c2:=hp5.at_ 2 _ rfl
 have c3:=hp5.at_ 3 _ rfl
 have c4:=hp5.at_ 4 _ rfl
 have c5:=hp5.at_ 5 _ rfl
 have c6:=hp5.at_ 6 _ rfl
 have c7:=hp5.at_ 7 _ rfl
 have c8:=hp5.at_ 8 _ rfl
 have c9:=hp5.at_ 9 _ rfl
 have c10:=hp5.at_ 10 _ rfl
 have c11:=hp5.at_ 11 _ rfl
 have l5:=hp5.lt
 have HM3:Hid (MaxL w3):=HM1.out.kp hw3'.kp (fun hf=>by have:=HGl.out _ hf;omega)
 clear hw2 hp7 hoff7 hw3' hp5
 go_upto_region 4 with (fail)
 rw[←hw3]
 try simp only[e7]
 clear hw3 e7
 go_wp2_with fail
 have hx1:({ x with tk:=tt,PA:=PA,pc:=pc,ps:=[⟨tt,annN,[],false,none,0,[]⟩] }:Srv).cs=[annN,bobN]:=HMd.out.cs
 refine (cmPut { x with tk:=tt,PA:=PA,pc:=pc,ps:=[⟨tt,annN,[],false,none,0,[]⟩] } ⟨tt,annN,[],false,none,0,[]⟩ { cmd0 with kind:=4,cl:=annN,num:=tt,EA:=some ⟨w3.heap.size,0,none⟩,en:=1,ec:=1 } [exY] 0 (w3.alloc (.cells #[.string (bs xPath),.int .i64 1,.int .i64 2,.bool false,.bool true,.bool false,.int .u64 5,.int .i64 1,.int .i64 0,.string ⟨#[]⟩,.int .i64 0,.int .i64 1] 32)) (H3.out.1.at_.calm ((Calm.refl _).alloc _)) rfl HMd.out.ss rfl rfl rfl rfl h2.out (by rw[hx1];exact bs_2a) (by rw[hx1];rfl)
  (read_one (enc:=encEd) (K:=12) w3 exY _ #[.string (bs xPath),.int .i64 1,.int .i64 2,.bool false,.bool true,.bool false,.int .u64 5,.int .i64 1,.int .i64 0,.string ⟨#[]⟩,.int .i64 0,.int .i64 1] rfl) rfl (show (1:Nat)≤64 by decide) (fun y hy=>by rw[List.mem_singleton.1 hy];decide) (HM3.out.calm ((Calm.refl _).alloc _))).mono ?_
 rintro e w5 hq
 rcases hq with⟨h0,_⟩ | ⟨_,rfl,A,ec,hw5⟩
 ·exact absurd exY_suit h0
 have hwt:Went w3 { x with tk:=tt,PA:=PA,pc:=pc,ps:=[⟨tt,annN,[],false,none,0,[]⟩] } w5 { x with tk:=tt,PA:=PA,pc:=pc,ps:=[⟨tt,annN,[],false,A,ec,[exY]⟩] }:=Went.trans (Went.same H3.out.1.at_ ((Calm.refl _).alloc _)) hw5
 have H5:Hid (Went w1 x w5 { x with tk:=tt,PA:=PA,pc:=pc,ps:=[⟨tt,annN,[],false,A,ec,[exY]⟩] }):=H3.out.1.trans hwt
 have HP75:=Lib.hid (HP7.out.kp hwt.kp H3.out.2)
 have HM5:Hid (MaxL w5):=HM1.out.kp H5.out.kp (fun hf=>by have:=HGl.out _ hf;omega)
 have s0:=HP75.out.at_ 0 _ rfl
 have l7:=HP75.out.lt
 have hx2:({ x with tk:=tt,PA:=PA,pc:=pc,ps:=[⟨tt,annN,[],false,A,ec,[exY]⟩] }:Srv).cs=[annN,bobN]:=HMd.out.cs
 have KSub:=Lib.hid (cmSubmit { x with tk:=tt,PA:=PA,pc:=pc,ps:=[⟨tt,annN,[],false,A,ec,[exY]⟩] } ⟨tt,annN,[],false,A,ec,[exY]⟩ { cmd0 with kind:=8,cl:=annN,num:=tt } (fun _=>q) 0 w5 H5.out.at_ rfl HMd.out.ss rfl rfl rfl h2.out (by rw[hx2];exact bs_2a) (by rw[hx2];rfl) HMd.out.rs.1 HMd.out.rs.2.1 HMd.out.rs.2.2 HMd.out.hs.1 HMd.out.hs.2.1 HMd.out.hs.2.2 (show (1:Nat)≤64 by decide) (fun y hy=>by rw[List.mem_singleton.1 hy];decide) HM5.out
  (fun y hy _ W hW=>by rw[List.mem_singleton.1 hy];exact HQ'.out W { x with tk:=tt,PA:=PA,pc:=pc,ps:=[⟨tt,annN,[],false,A,ec,[exY]⟩] } (H5.out.at_.calm hW) rfl rfl rfl rfl))
 clear hw5 hwt hx1 c0 c1 c2 c3 c4 c5 c6 c7 c8 c9 c10 c11 l5 hx2
 go_wp2_with fail
 refine KSub.out.mono ?_
 rintro e w6 hq
 cases q with
 |false=>
  rcases hq with⟨_,rfl,hw6⟩ | ⟨h0,_⟩
  ·have hsub:subE (fun _=>false) (⟨tt,annN,[],false,A,ec,[exY]⟩:Pnd).l=215:=exY_no
   rw[hsub]
   have H6:Hid (Went w1 x w6 { x with tk:=tt,PA:=PA,pc:=pc,ps:=[⟨tt,annN,[],false,A,ec,[exY]⟩] }):=H5.out.trans hw6
   have h76:=HP75.out.kp hw6.kp H3.out.2
   have s0:=h76.at_ 0 _ rfl
   have l7:=h76.lt
   have hx2:({ x with tk:=tt,PA:=PA,pc:=pc,ps:=[⟨tt,annN,[],false,A,ec,[exY]⟩] }:Srv).cs=[annN,bobN]:=HMd.out.cs
   have KDr:=Lib.hid (cmDrop { x with tk:=tt,PA:=PA,pc:=pc,ps:=[⟨tt,annN,[],false,A,ec,[exY]⟩] } ⟨tt,annN,[],false,A,ec,[exY]⟩ { cmd0 with kind:=7,cl:=annN,num:=tt } w6 H6.out.at_ rfl h2.out (by rw[hx2];exact congrArg Prod.snd bs_2a) rfl rfl rfl)
   clear hw6 h76 hx2 hsub
   go_wp2_with fail
   refine KDr.out.mono ?_
   rintro e w7 ⟨rfl,hw7⟩
   have H7:=Lib.hid ((Went.same HSv.out HC1.out).trans (H6.out.trans hw7))
   clear hw7
   go_wp2_with fail
   go_ret
   exact⟨rfl,_,H7.out,⟨rfl,rfl,rfl,rfl,rfl⟩,HMd.out.ss,HMd.out.cs,HT.out.symm,rfl,fun _=>⟨HMd.out.rs,HMd.out.hs⟩,fun h=>by cases h⟩
  ·rw[show subE (fun _=>false) (⟨tt,annN,[],false,A,ec,[exY]⟩:Pnd).l=215 from exY_no] at h0
   cases h0
 |true=>
  rcases hq with⟨h0,_⟩ | ⟨_,rfl,RA,rc,HA,hc,hw6,_,_⟩
  ·exact absurd exY_yes h0
  ·have H7:=Lib.hid ((Went.same HSv.out HC1.out).trans (H5.out.trans hw6))
   clear hw6
   go_wp2_with fail
   go_ret
   refine⟨rfl,_,H7.out,⟨rfl,rfl,rfl,rfl,rfl⟩,HMd.out.ss,HMd.out.cs,HT.out.symm,rfl,(fun h=>by cases h),fun _=>⟨rfl,fun c hc=>?_,(show (1:Nat)≤64 by decide)⟩⟩
   rw[List.mem_singleton.1 hc]
   exact (show (1:Nat)≤64 by decide)
theorem size_x:Maps.size xD=1:=rfl
theorem fld5 (ck tk:Int) (SA CA RA HA PA LA:Option Addr) (sc cc rc hc pc lc sn cn rn hn pn ln:Nat) (W:World) :
  (Instr.field 55 (.agg #[.int .i64 ck,.int .i64 tk,.slice SA sn sc,.slice CA cn cc,.slice RA rn rc,.slice none 0 0,.slice HA hn hc,.slice PA pn pc,.slice LA ln lc]) 5).run Tryz.prog W=.ok (.slice HA hn hc) W:=by kernel_rfl
set_option maxRecDepth 100000 in
set_option maxHeartbeats 16000000 in
theorem awake21_c (w:World) (hM:MaxL w):Calls Tryz.prog 4 #[] w fun e w'=>e=.returned (.bool true)∧Calm w w':=by
 have KB:=Lib.hid (begun_c w)
 have HM:=Lib.hid hM
 have hfl:=fld5
 clear hM
 go_enter Tryz.func4,Tryz.ntmps4
 go_wp2_with fail
 refine KB.out.mono ?_
 rintro e w1 ⟨⟨x,rfl,hs1,hst,hfr⟩,hc1⟩
 have HS1:=Lib.hid hs1
 have HSt:=Lib.hid hst
 have HFr:=Lib.hid hfr
 have HC1:=Lib.hid hc1
 have HG:Hid (∀i,x.F i→0 < i):=fun i hi=>Nat.lt_of_lt_of_le HM.out.lt (hfr i hi)
 clear hs1 hst hfr hc1
 go_wp2_with fail
 refine (topEdit_c xPath 1 w1).mono ?_
 rintro e w2 ⟨rfl,hc2⟩
 have hs2:=HS1.out.calm hc2
 have KP:=Lib.hid (put_c x 0 false w2 hs2 ⟨HSt.out.ss,HSt.out.cs,HSt.out.tk,HSt.out.rs,HSt.out.hs,HSt.out.ps⟩ (by decide) HG.out (HM.out.calm (HC1.out.trans hc2)) (fun W y hy _ _ _ hD=>holds_no y.T y.M xPath annN 1 W hy.t (fun W' hW'=>by
  have hm:=(hy.calm hW').m
  rw[hD,HSt.out.D] at hm
  exact lk_no hm xPath (by decide))))
 have HC2:Hid (Calm w w2):=HC1.out.trans hc2
 clear hc2 hs2
 go_wp2_with fail
 refine KP.out.mono ?_
 rintro e w3 ⟨rfl,x3,hp3⟩
 have HP3:=Lib.hid hp3
 have hno:=hp3.no rfl
 have HNo:=Lib.hid hno
 have hS3:=hp3.same.1
 have hcs3:x3.cs.length≤2:=by rw[hp3.cs];decide
 have KA:Hid (Calls Tryz.prog 6 #[.pointer (some ⟨x.S,0,none⟩),cmV { cmd0 with kind:=9,cl:=annN,pa:=xPath,ticks:=10 }] w3 fun e w'=>e=.returned (.tuple #[.agg #[.int .i64 0,.int .i64 1,.int .i64 10],.int .i64 0])∧Went w3 x3 w' { x3 with k:=x3.k+1,D:=xD }):=by
  show Calls _ _ _ _ _
  rw[←hS3]
  exact cmAcquire x3 { cmd0 with kind:=9,cl:=annN,pa:=xPath,ticks:=10 } w3 hp3.went.at_ rfl hcs3 (by rw[hp3.cs];decide) (by rw[hp3.same.2.2.2.2];exact HSt.out.D) (by rw[hp3.same.2.2.2.1,HSt.out.k];decide) rfl rfl rfl
 have HS3:=Lib.hid hS3
 clear hp3 hno hcs3 hS3
 go_wp2_with fail
 refine KA.out.mono ?_
 rintro e w4 ⟨rfl,hw4⟩
 obtain⟨w5,hw5⟩:∃w5,w5=w4.alloc (.cells #[.int .i64 0,.int .i64 1,.int .i64 10] 35):=⟨_,rfl⟩
 have hs5:SrvAt w5 { x3 with k:=x3.k+1,D:=xD }:=by rw[hw5];exact hw4.at_.calm ((Calm.refl _).alloc _)
 have hk5:Kp x.F w2 w5:=by
  rw[hw5]
  exact (HP3.out.went.trans (hw4.calm ((Calm.refl _).alloc _))).kp
 have hp5:CellsB w5 w4.heap.size [.int .i64 0,.int .i64 1,.int .i64 10]:=by rw[hw5];exact CellsB.new w4 _ _
 have hfar:∀i,x3.F i→w.heap.size≤i:=fun i hi=>(HP3.out.went.far i hi).elim (HFr.out i) (fun h=>Nat.le_trans HC2.out.size h)
 have HC5:Hid (Calm w w5):=Kp.calm' HC2.out hk5 HFr.out
 have HS5:=Lib.hid hs5
 have HFar:=Lib.hid hfar
 have r1:=hp5.at_ 1 _ rfl
 have lr:=hp5.lt
 clear hs5 hk5 hp5 hfar
 go_upto_region 5 with (fail)
 rw[←hw5]
 clear hw5 hw4
 go_wp2_with fail
 refine (topEdit_c xPath 1 w5).mono ?_
 rintro e w6 ⟨rfl,hc6⟩
 have hS3:=HS3.out
 have KQ:Hid (Calls Tryz.prog 8 #[.pointer (some ⟨x.S,0,none⟩),.string (bs annN),tpV] w6 fun e w'=>e=.returned (.int .i64 (if true then 0 else 215))∧∃x',PutX w6 { x3 with k:=x3.k+1,D:=xD } true w' x'):=by
  show Calls _ _ _ _ _
  rw[←hS3]
  exact put_c { x3 with k:=x3.k+1,D:=xD } 1 true w6 (HS5.out.calm hc6) ⟨HP3.out.ss,HP3.out.cs,by rw[show ({ x3 with k:=x3.k+1,D:=xD }:Srv).tk=x.tk+1 from HP3.out.tk,HSt.out.tk];rfl,HNo.out.1,HNo.out.2,HP3.out.ps⟩ (by decide) (fun i hi=>Nat.lt_of_lt_of_le HM.out.lt (HFar.out i hi)) (HM.out.calm (HC5.out.trans hc6)) (fun W y hy _ _ _ hD=>holds_yes y.T y.M W hy.t (fun W' hW'=>by
   have hm:=(hy.calm hW').m
   rw[hD] at hm
   exact lk_x hm))
 have HC6:Hid (Calm w w6):=HC5.out.trans hc6
 clear hc6 hS3 r1 lr
 go_wp2_with fail
 refine KQ.out.mono ?_
 rintro e w7 ⟨rfl,x7,hp7⟩
 have hy:=hp7.yes rfl
 have hS7:x7.S=x.S:=hp7.same.1.trans HS3.out
 have KS:Hid (Calls Tryz.prog 7 #[.pointer (some ⟨x.S,0,none⟩)] w7 fun e w'=>(∃ln,StEnd w7 0 x7.tk x7.cs.length x7.rs.length 1 x7.ps.length ln x7.hs x7.ps e w')∧Calm w7 w'):=by
  show Calls _ _ _ _ _
  rw[←hS7,←hy.1]
  exact state_c x7 w7 hp7.went.at_ hp7.ss (by rw[hp7.cs];decide) (by have:=hy.2.2;omega) (by rw[hy.1];exact Nat.le_refl _) (by rw[hp7.ps];decide) (fun p hp=>by rw[hp7.ps] at hp;cases hp) hy.2.1 (by rw[hp7.same.2.2.2.2];exact dEnt_x) (by rw[hp7.same.2.2.2.2];exact Nat.le_of_eq size_x)
 have HC7:Hid (Calm w w7):=Kp.calm' HC6.out hp7.went.kp HFar.out
 clear hp7 hy hS7
 go_wp2_with fail
 refine KS.out.mono ?_
 rintro e w8 ⟨⟨ln,B2,d2,B3,d3,B4,d4,B6,d6,B7,d7,B8,d8,rfl,_,_⟩,hc8⟩
 have HC8:Hid (Calm w w8):=HC7.out.trans hc8
 clear hc8
 go_wp2_with fail
 go_ret
 exact⟨rfl,HC8.out⟩
end Go.Proofs.YtcofdlipapnohaaGreatDoor
