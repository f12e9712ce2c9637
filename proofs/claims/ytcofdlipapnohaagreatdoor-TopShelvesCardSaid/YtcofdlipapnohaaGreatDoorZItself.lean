/- Walks: the ancestors of a stream, its last ancestor. -/
import Derived.Test.YtcofdlipapnohaaGreatDoorProg
import Derived.Maps.OwnSet
import Derived.Deep.RegionLaw
import Derived.Test.YtcofdlipapnohaaGreatDoorZSrvB
import Derived.Test.YtcofdlipapnohaaGreatDoorZNewS
import Derived.Test.YtcofdlipapnohaaGreatDoorZRuleW
set_option linter.unusedVariables false
set_option linter.unusedSimpArgs false
namespace Go.Proofs.YtcofdlipapnohaaGreatDoor
open Go Go.RowKit Sy
theorem key_law:Maps.Keyed Tryz.prog 9:=Maps.string_keyed Tryz.underlying9
theorem zero_int (w:World):(zeroValue 3).run Tryz.prog w=.ok (.int .i64 0) w:=by kernel_rfl
theorem key_of (s:Str) (h:s.length≤1048576):keyOf Tryz.prog 9 (.string (bs s))=some (.string s):=by
 have:=WideMaps.keyOf_string_mk Tryz.underlying9 (s:=bs s) (by rw[bs_size];unfold maxLen;omega)
 rw[bs_toList] at this
 exact this
def DatIs (D:DataW Unit) (l:List Strm):Prop:=Maps.IsMap D∧∀s:Str,D.atKey (.string s) (.lit (.int .i64 0))=.lit (.int .i64 ((findI l s).getD 0:Nat))∧Maps.has D (.string s)=(findI l s).isSome
theorem DatIs.nil:DatIs (.map []) []:=⟨Maps.isMap_empty,fun s=>⟨rfl,rfl⟩⟩
theorem DatIs.step {D:DataW Unit} {l:List Strm} {s:Strm} (h:DatIs D l) (hn:findI l s.name=none):DatIs (D.put (.string s.name) (.lit (.int .i64 (l.length:Nat)))) (l++[s]):=by
 refine⟨h.1.put _ _,fun t=>?_⟩
 rw[findI_snoc]
 by_cases e:s.name=t
 ·subst e
  rw[Maps.atKey_put_same h.1 (by trivial),Maps.has_put_same h.1 (by trivial),hn]
  simp
 ·have hne:(Lit.string t)≠.string s.name:=fun e2=>e (by simpa using e2.symm)
  rw[Maps.atKey_put_other hne,Maps.has_put_other hne,(h.2 t).1,(h.2 t).2]
  rcases findI l t with _ | i <;> simp[e]
theorem DatIs.skip {D:DataW Unit} {l:List Strm} {s:Strm} {i:Nat} (h:DatIs D l) (hn:findI l s.name=some i):DatIs D (l++[s]):=by
 refine⟨h.1,fun t=>?_⟩
 rw[findI_snoc,(h.2 t).1,(h.2 t).2]
 rcases hf:findI l t with _ | j
 ·have e:s.name≠t:=fun e=>by subst e;rw[hf] at hn;cases hn
  simp[e]
 ·simp
def Idx (w:World) (B:Nat) (l:List Strm):Prop:=B < w.heap.size∧∀(w':World) (s:Str),Calm w w'→s.length≤1048576 →
 (Instr.lookup 207 (.map (some B)) (.string (bs s)) true).run Tryz.prog w'=.ok (.tuple #[.int .i64 ((findI l s).getD 0:Nat),.bool (findI l s).isSome]) w' ∧
 (Instr.lookup 207 (.map (some B)) (.string (bs s)) false).run Tryz.prog w'=.ok (.int .i64 ((findI l s).getD 0:Nat)) w'
theorem Idx.calm {w w':World} {B:Nat} {l:List Strm} (h:Idx w B l) (hc:Calm w w'):Idx w' B l:=⟨Nat.lt_of_lt_of_le h.1 hc.size,fun w2 s h2 hs=>h.2 w2 s (hc.trans h2) hs⟩
abbrev MapAt (w:World) (B k:Nat) (D:DataW Unit):Prop:=w.ownsMap Tryz.prog 9 (plainElem Tryz.prog 3) B k D
theorem MapAt.calm {w w':World} {B k:Nat} {D:DataW Unit} (h:MapAt w B k D) (hc:Calm w w'):MapAt w' B k D:=by
 obtain⟨es,clock,hb,r⟩:=h
 exact⟨es,clock,(hc.block B (Array.getElem?_eq_some_iff.1 hb).1).trans hb,r⟩
theorem idx_of {w:World} {B k:Nat} {D:DataW Unit} {l:List Strm} (h:MapAt w B k D) (hD:DatIs D l):Idx w B l:=by
 refine⟨h.lt,fun w' s hc hs=>?_⟩
 have h':=MapAt.calm h hc
 obtain⟨c,hrun,hat,_⟩:=h'.lookup_int key_law Tryz.underlying207 Tryz.underlying3 (zero_int w') (key_of s hs)
 obtain⟨v,ps,hrun2,hv⟩:=h'.look_ok key_law Tryz.underlying207 (zero_int w') (plainElem_int Tryz.underlying3 (by decide)) (key_of s hs)
 obtain⟨c2,rfl,hc2,_⟩:=plainElem_int_inv Tryz.underlying3 hv
 simp only[Prod.mk.injEq] at hc2
 rw[(hD.2 s).1] at hat hc2
 simp only[DataW.lit.injEq,Lit.int.injEq,true_and] at hat hc2
 subst hat
 have e2:=hc2.1
 subst e2
 rw[hrun2,hrun,(hD.2 s).2]
 exact⟨rfl,rfl⟩
structure ForestAt (w:World) (F:Nat) (A:Option Addr) (n c:Nat) (ss:List Strm):Prop where
 lt:F < w.heap.size
 c0:w.cell? ⟨F,0,none⟩=some (.slice A n c)
 idx:∃B,w.cell? ⟨F,1,none⟩=some (.map (some B))∧Idx w B ss
 hn:ss.length=n
 strms:StrmsU w A ss
theorem ForestAt.calm {w w':World} {F:Nat} {A:Option Addr} {n c:Nat} {ss:List Strm} (h:ForestAt w F A n c ss) (hc:Calm w w'):ForestAt w' F A n c ss:=by
 obtain⟨B,h1,h2⟩:=h.idx
 exact⟨Nat.lt_of_lt_of_le h.lt hc.size,Calm.at_ hc h.c0 h.lt,⟨B,Calm.at_ hc h1 h.lt,h2.calm hc⟩,h.hn,h.strms.calm hc⟩
structure Built (w wr:World) (A:Option Addr) (n c:Nat) (ss:List Strm) (k:Nat):Prop where
 calm:Calm w wr
 lt:w.heap.size+1 < wr.heap.size
 c0:wr.cell? ⟨w.heap.size+1,0,none⟩=some (.slice A n c)
 c1:wr.cell? ⟨w.heap.size+1,1,none⟩=some (.map (some w.heap.size))
 map:∃D,MapAt wr w.heap.size k D∧DatIs D (ss.take k)
theorem Built.done {w wr:World} {A:Option Addr} {n c:Nat} {ss:List Strm} {k:Nat} (h:Built w wr A n c ss k) (hk:ss.length≤k) (hn:ss.length=n) (hs:StrmsU w A ss):ForestAt wr (w.heap.size+1) A n c ss:=by
 obtain⟨D,h1,h2⟩:=h.map
 rw[List.take_of_length_le hk] at h2
 exact⟨h.lt,h.c0,⟨_,h.c1,idx_of h1 h2⟩,hn,hs.calm h.calm⟩
theorem Built.skip {w wr w2:World} {A:Option Addr} {n c:Nat} {ss:List Strm} {k i:Nat} {s:Strm} (h:Built w wr A n c ss k) (hs:ss[k]?=some s) (hf:findI (ss.take k) s.name=some i) (hc:Calm wr w2):Built w w2 A n c ss (k+1):=by
 obtain⟨D,h1,h2⟩:=h.map
 obtain⟨hlt,he⟩:=List.getElem?_eq_some_iff.1 hs
 refine⟨h.calm.trans hc,Nat.lt_of_lt_of_le h.lt hc.size,Calm.at_ hc h.c0 h.lt,Calm.at_ hc h.c1 h.lt,D,(MapAt.calm h1 hc).mono (by omega),?_⟩
 rw[List.take_succ_eq_append_getElem hlt,he]
 exact h2.skip hf
theorem Built.put {w wr w2 w3:World} {A:Option Addr} {n c:Nat} {ss:List Strm} {k:Nat} {s:Strm} (h:Built w wr A n c ss k) (hs:ss[k]?=some s) (hf:findI (ss.take k) s.name=none) (hc:Calm wr w2)
  (h3:∀D,MapAt w2 w.heap.size k D→MapAt w3 w.heap.size (k+1) (D.put (.string s.name) (.lit (.int .i64 (k:Nat))))) (hg:w2.grownBy w3 (some w.heap.size)):Built w w3 A n c ss (k+1):=by
 obtain⟨D,h1,h2⟩:=h.map
 obtain⟨hlt,he⟩:=List.getElem?_eq_some_iff.1 hs
 have hb:w3.heap[w.heap.size+1]?=w2.heap[w.heap.size+1]?:=hg.block _ (Nat.lt_of_lt_of_le h.lt hc.size) (by simp)
 refine⟨(h.calm.trans hc).grown hg (h.calm.trans hc).size (fun j e=>by cases e;exact Nat.le_refl _),Nat.lt_of_lt_of_le h.lt (Nat.le_trans hc.size hg.size),?_,?_,_,h3 D (MapAt.calm h1 hc),?_⟩
 ·rw[World.cell?_of_block (a:=⟨w.heap.size+1,0,none⟩) hb];exact Calm.at_ hc h.c0 h.lt
 ·rw[World.cell?_of_block (a:=⟨w.heap.size+1,1,none⟩) hb];exact Calm.at_ hc h.c1 h.lt
 ·rw[List.take_succ_eq_append_getElem hlt,he]
  have:=h2.step hf
  rw[List.length_take,Nat.min_eq_left (by omega)] at this
  exact this
theorem map_put {w:World} {B k:Nat} {D:DataW Unit} (hD:MapAt w B k D) {key:Str} (hkl:key.length≤1048576) (hk:k < 2000000) (i:Nat) (hi:i≤2000000) :
  ∃w',(Instr.mapUpdate 207 (.map (some B)) (.string (bs key)) (.int .i64 i)).run Tryz.prog w=.ok () w'∧MapAt w' B (k+1) (D.put (.string key) (.lit (.int .i64 (i:Nat))))∧w.grownBy w' (some B):=
 hD.update key_law Tryz.underlying207 (by unfold maxLen;omega) (key_of key hkl) (plainElem_int Tryz.underlying3 (a:=(i:Int)) (WalkArith.wf_i64 (by omega)))
set_option maxHeartbeats 2000000 in
theorem forest_c (ss:List Strm) (A:Option Addr) (n c:Nat) (w:World) (hs:StrmsU w A ss) (hn:ss.length=n) :
  Calls Tryz.prog 89 #[.slice A n c] w fun e w'=>(∃F,e=.returned (.pointer (some ⟨F,0,none⟩))∧ForestAt w' F A n c ss)∧Calm w w':=by
 have hlen:=hs.len
 rw[hn] at hlen
 obtain⟨w1,hw1⟩:∃w1,w1=(w.alloc (.map #[] 0)).alloc (.cells #[.slice A n c,.map (some w.heap.size)] 209):=⟨_,rfl⟩
 have hb0:Built w w1 A n c ss 0:=by
  subst hw1
  refine⟨((Calm.refl w).alloc _).alloc _,by simp,by simp[go_sem],by simp[go_sem],.map [],?_,?_⟩
  ·exact MapAt.calm (World.ownsMap_made w _ _ _) ((Calm.refl _).alloc _)
  ·simpa using DatIs.nil
 have HN:=Lib.hid hn
 have HS:=Lib.hid hs
 have HB0:=Lib.hid hb0
 have HW:=Lib.hid hw1
 have hmm:=@run_makeMap Tryz.prog
 clear hn hs hb0 hw1
 go_enter Tryz.func89,Tryz.ntmps89
 go_wp2_with fail
 rw[←HW.out]
 go_loopw [14] (fun q wr=>∃k:Nat,k≤n∧q=.int .i64 k∧Hid (Built w wr A n c ss k)) (fun q _=>n - (intOf q).toNat)
 case atStart=>exact⟨0,Nat.zero_le _,rfl,HB0.out⟩
 case round=>
  obtain⟨k,hk,rfl,HB⟩:=hrel
  by_cases hlt:k < n
  ·obtain⟨b,o,s,PA,pc,rfl,hb,hr,hat,hsu⟩:=(HS.out.calm HB.out.calm).get (k:=k) (by rw[HN.out];exact hlt)
   have c0:=hat.c0
   have c1:=hat.c1
   have c2:=hat.c2
   obtain⟨np,hnp⟩:∃np,s.paths.length=np:=⟨_,rfl⟩
   rw[hnp] at c2
   obtain⟨nm,hnm⟩:∃nm,s.name=nm:=⟨_,rfl⟩
   obtain⟨pa,hpa⟩:∃pa,s.parent=pa:=⟨_,rfl⟩
   have hnl:=hsu.name
   rw[hnm] at c0 hnl
   rw[hpa] at c1
   obtain⟨wB,hwB⟩:∃wB,wB=wr.alloc (.cells #[.string (bs nm),.string (bs pa),.slice PA np pc] 41):=⟨_,rfl⟩
   have hcB:Calm wr wB:=by rw[hwB];exact (Calm.refl wr).alloc _
   have hzB:wr.heap.size < wB.heap.size:=by rw[hwB];simp
   have g0:wB.cell? ⟨wr.heap.size,0,none⟩=some (.string (bs nm)):=by rw[hwB];simp[go_sem]
   have f1:wB.cell? ⟨w.heap.size+1,1,none⟩=some (.map (some w.heap.size)):=Calm.at_ hcB HB.out.c1 HB.out.lt
   have hlw:w.heap.size+1 < wB.heap.size:=Nat.lt_of_lt_of_le HB.out.lt hcB.size
   obtain⟨fi,hfi⟩:∃fi,findI (ss.take k) nm=fi:=⟨_,rfl⟩
   have hI:Hid (∀W,Calm wB W→(Instr.lookup 207 (.map (some w.heap.size)) (.string (bs nm)) true).run Tryz.prog W=.ok (.tuple #[.int .i64 (fi.getD 0:Nat),.bool fi.isSome]) W):=fun W hW=>by
    obtain⟨D,h1,h2⟩:=HB.out.map
    rw[←hfi]
    exact ((idx_of h1 h2).2 W nm (hcB.trans hW) hnl).1
   have HR:=Lib.hid hr
   have HNm:=Lib.hid hnm
   have HF:=Lib.hid hfi
   have HC:=Lib.hid hcB
   have HWB:=Lib.hid hwB
   clear hr hnm hfi hcB hat hsu hnp hpa
   go_wp2_with fail
   rw[←HWB.out]
   clear HWB hwB
   have e0:=fun p:CalmTo wB=>p.cell g0 hzB
   have e1:=fun p:CalmTo wB=>p.cell f1 hlw
   have e2:=fun p:CalmTo wB=>hI.out p.w p.h
   cases fi with
   |some i=>
    simp only[Option.getD_some,Option.isSome_some] at e2
    refine wp_region_calm (by kernel_rfl) (by kernel_rfl) ?_
    repeat (go_big_quiet_step (fail))
    refine wpQuiet_nil ?_
    intro w7 hc7
    go_wp2
    go_roundw
    case rel=>exact⟨k+1,by omega,by go_num,HB.out.skip HR.out (by rw[HNm.out];exact HF.out) (HC.out.trans hc7)⟩
    case measure=>simp[intOf];omega
   |none=>
    simp only[Option.getD_none,Option.isSome_none] at e2
    refine wp_region_calm (by kernel_rfl) (by kernel_rfl) ?_
    repeat (go_big_quiet_step (fail))
    refine wpQuiet_nil ?_
    intro w7 hc7
    have d0:=Calm.at_ hc7 g0 hzB
    have d1:=Calm.at_ hc7 f1 hlw
    clear e0 e1 e2 g0 f1
    obtain⟨w8,hrun,hp8⟩:∃w8,(Instr.mapUpdate 207 (.map (some w.heap.size)) (.string (bs nm)) (.int .i64 k)).run Tryz.prog w7.drew=.ok () w8∧Hid (Built w w8 (some ⟨b,o,none⟩) n c ss (k+1)):=by
     have hc9:Calm wr w7.drew:=HC.out.trans (hc7.trans ((Calm.refl _).drewN 1))
     obtain⟨D,h1,h2⟩:=HB.out.map
     obtain⟨w8,hrun,r1,r2⟩:=map_put (MapAt.calm h1 hc9) (show nm.length≤1048576 from hnl) (by omega) k (by omega)
     refine⟨w8,hrun,?_⟩
     refine HB.out.put HR.out (by rw[HNm.out];exact HF.out) hc9 (fun D' hD'=>?_) r2
     rw[HNm.out]
     obtain⟨w9,hrun9,q1,_⟩:=map_put hD' (show nm.length≤1048576 from hnl) (by omega) k (by omega)
     rw[hrun] at hrun9
     cases hrun9
     exact q1
    go_wp2_with fail
    go_region
    all_goals
     go_wp2
     go_roundw
     case rel=>exact⟨k+1,by omega,by go_num,hp8⟩
     case measure=>simp[intOf];omega
  ·obtain rfl:k=n:=by omega
   go_wp2
   go_ret
   exact⟨⟨_,rfl,HB.out.done (by rw[HN.out];exact Nat.le_refl _) HN.out HS.out⟩,HB.out.calm⟩
def parV (o:Option Nat):Value:=.tuple #[.int .i64 (o.getD 0:Nat),.bool o.isSome]
set_option maxHeartbeats 2000000 in
theorem parent_c (ss:List Strm) (F:Nat) (A:Option Addr) (n c i:Nat) (w:World) (hf:ForestAt w F A n c ss) (hi:i < n) :
  Calls Tryz.prog 165 #[.pointer (some ⟨F,0,none⟩),.int .i64 i] w fun e w'=>e=.returned (parV (parentI ss i))∧Calm w w':=by
 obtain⟨B,hB,hI⟩:=hf.idx
 have hn:=hf.hn
 have hlen:=hf.strms.len
 rw[hn] at hlen
 obtain⟨b,o,s,PA,pc,rfl,hb,hr,hat,hsu⟩:=hf.strms.get (k:=i) (by rw[hn];exact hi)
 have hlt:=hf.lt
 have c0:=hf.c0
 have c1:=hat.c1
 have hpl:=hsu.par
 have hs:=strm_at hr
 obtain⟨pa,hpa⟩:∃pa,s.parent=pa:=⟨_,rfl⟩
 rw[hpa] at c1 hpl
 have hp:parentI ss i=if pa=[] then none else findI ss pa:=by unfold parentI;rw[hs,hpa]
 rw[hp]
 clear hp hs hpa hat hsu hr hf hn
 cases pa with
 |nil=>
  have e0:bs []=⟨#[]⟩:=rfl
  rw[e0] at c1
  go_enter Tryz.func165,Tryz.ntmps165
  go_wp2
  go_ret2
  exact⟨rfl,Calm.refl _⟩
 |cons x t=>
  have hne:(x :: t).isEmpty=false:=rfl
  obtain⟨pa,hpa⟩:∃pa,x :: t=pa:=⟨_,rfl⟩
  have hp0:pa≠[]:=by rw[←hpa];simp
  rw[hpa] at c1 hpl hne ⊢
  rw[if_neg hp0]
  clear hpa hp0
  obtain⟨fi,hfi⟩:∃fi,findI ss pa=fi:=⟨_,rfl⟩
  have e2:=fun p:CalmTo w=>(hI.2 p.w pa p.h hpl).1
  rw[hfi] at e2 ⊢
  have e0:=fun p:CalmTo w=>p.cell c0 hlt
  have e1:=fun p:CalmTo w=>p.cell hB hlt
  have e3:=fun p:CalmTo w=>p.cell c1 hb
  clear hfi hI
  go_enter Tryz.func165,Tryz.ntmps165
  go_wp2_with fail
  refine wp_region_calm (by kernel_rfl) (by kernel_rfl) ?_
  repeat (go_big_quiet_step (fail))
  refine wpQuiet_nil ?_
  intro w7 hc7
  go_wp2
  go_ret2
  exact⟨rfl,hc7⟩
theorem info_intE:(Tryz.prog.info? 3).map (fun i=>(i.zero,i.size,i.bytes))=some (some (.int .i64 0),1,8):=by kernel_rfl
def intCells (l:List Nat):List Value:=l.map fun (x:Nat)=>Value.int .i64 (x:Int)
structure OwnI (w0 w:World) (v:Value) (l:List Nat):Prop where
 calm:Calm w0 w
 own:w.ownsRow w0.heap.size 3 1 v l.length (intCells l)
theorem OwnI.nil {w0 w:World} (h:Calm w0 w):OwnI w0 w (.slice none 0 0) []:=⟨h,World.ownsRow_nil _ _ _ _⟩
theorem OwnI.to {w0 w w':World} {v:Value} {ls:List Nat} (h:OwnI w0 w v ls) (hc:Calm w w'):OwnI w0 w' v ls:=⟨h.calm.trans hc,owns_calm h.own hc⟩
def IntsAt (w:World) (A:Option Addr) (l:List Nat):Prop:=0 < l.length→∃g,A=some ⟨g,0,none⟩∧g < w.heap.size∧∀(k x:Nat),l[k]?=some x→w.cell? ⟨g,k,none⟩=some (.int .i64 (x:Int))
theorem IntsAt.calm {w w':World} {A:Option Addr} {l:List Nat} (h:IntsAt w A l) (hc:Calm w w'):IntsAt w' A l:=fun h0=>by
 obtain⟨g,rfl,hg,hk⟩:=h h0
 exact⟨g,rfl,Nat.lt_of_lt_of_le hg hc.size,fun k x hx=>Calm.at_ hc (hk k x hx) hg⟩
theorem OwnI.ints {w0 w:World} {v:Value} {l:List Nat} (h:OwnI w0 w v l):∃A c,v=.slice A l.length c∧IntsAt w A l:=by
 rcases h.own.2 with⟨rfl,h0⟩ | ⟨g,cap,cur,rfl,hg,hh,hcap,hm,hs,ht⟩
 ·exact⟨none,0,by rw[h0],fun h=>by omega⟩
 ·have hlt:g < w.heap.size:=by
   rcases Nat.lt_or_ge g w.heap.size with h | h
   ·exact h
   ·rw[Array.getElem?_eq_none h] at hh;cases hh
  refine⟨_,cap,rfl,fun _=>⟨g,rfl,hlt,fun k x hx=>?_⟩⟩
  have:=h.own.cells (g:=g) rfl k (.int .i64 (x:Int)) (by simp[intCells,hx])
  rw[Addr.add_lit] at this
  simpa using this
theorem wpList_append_int {ops:Array Oper} {rest:List Oper} {o:Oper} {a:Act} {Q:Exit→Act→World→Prop} {w:World} (hgd:o.guard=none) (s x:Operand)
  (ho:o.op=.call { callee:=.builtin .append,args:=#[s,x],argTypes:=#[70,70] }) (w0:World) (v:Value) (ls:List Nat) (hs:a.eval s=v) (hown:OwnI w0 w v ls)
  (b off c:Nat) (hx:a.eval x=.slice (some ⟨b,off,none⟩) 1 c) (l:Nat) (hcell:w.cell? ⟨b,off,none⟩=some (.int .i64 (l:Int))) (hlen:ls.length≤2000000)
  (h:∀v' w',OwnI w0 w' v' (ls++[l])→wpList Tryz.prog ops Q rest (a.put o.dst v') w'):wpList Tryz.prog ops Q (o :: rest) a w:=by
 obtain⟨i0,hi0,hz0,hz1,hz2⟩:=info_parts info_intE
 refine wpList_append_own w hgd s x 70 ho w0.heap.size 3 i0 _ 1 8 Tryz.underlying70 hi0 hz0 hz1 hz2 rfl (by decide) v ls.length (intCells ls) hs hown.own ⟨b,off,none⟩ 1 c [.int .i64 (l:Int)] hx rfl (fun j u hj=>?_) (by simp[Value.oneCell']) (by unfold maxLen;omega) (by omega) hown.calm.size ?_
 ·cases j with
  |zero=>
   simp only[List.getElem?_cons_zero,Option.some.injEq] at hj
   subst hj
   simpa[Addr.add_lit] using hcell
  |succ j=>simp at hj
 ·intro v' w' ho' hg _
  refine h v' w' ⟨Below.trans hown.calm (owns_below hown.own hown.calm.size hg),?_⟩
  rw[List.length_append]
  simpa[intCells] using ho'
def restA (ss:List Strm):Nat→Option Nat→List Nat
 |0,_=>[]
 |_+1,none=>[]
 |m+1,some p=>p :: aboveN ss m p
theorem aboveN_rest (ss:List Strm) (m i:Nat):aboveN ss m i=restA ss m (parentI ss i):=by
 cases m with
 |zero=>rfl
 |succ m=>
  unfold aboveN
  rcases parentI ss i with _ | p <;> rfl
theorem restA_none (ss:List Strm) (m:Nat):restA ss m none=[]:=by cases m <;> rfl
def lenV:Value→Nat
 |.slice _ n _=>n
 |_=>0
def AboveEnd (l:List Nat) (e:Ending) (w':World):Prop:=∃A c,e=.returned (.slice A l.length c)∧IntsAt w' A l
set_option maxHeartbeats 2000000 in
theorem above_c (ss:List Strm) (F:Nat) (A:Option Addr) (n c i:Nat) (w:World) (hf:ForestAt w F A n c ss) (hi:i < n) :
  Calls Tryz.prog 166 #[.pointer (some ⟨F,0,none⟩),.int .i64 i] w fun e w'=>AboveEnd (above ss i) e w'∧Calm w w':=by
 have hn:=hf.hn
 have hlen:=hf.strms.len
 rw[hn] at hlen
 have HF:=Lib.hid hf
 have HN:=Lib.hid hn
 have K:Hid (∀(W:World) (p:Nat),Calm w W→p < n→Calls Tryz.prog 165 #[.pointer (some ⟨F,0,none⟩),.int .i64 p] W fun e w'=>e=.returned (parV (parentI ss p))∧Calm W w'):=fun W p hW hp=>parent_c ss F A n c p W (hf.calm hW) hp
 have f0:=hf.c0
 have hlt:=hf.lt
 clear hf hn
 obtain⟨o0,ho0⟩:∃o0,parentI ss i=o0:=⟨_,rfl⟩
 have hk0:=K.out w i (Calm.refl w) hi
 rw[ho0] at hk0
 unfold parV at hk0
 have HO:=Lib.hid ho0
 clear ho0
 go_enter Tryz.func166,Tryz.ntmps166
 go_wp2_with (go_at_call 165;refine hk0.mono ?_;rintro e w1 ⟨rfl,hc1⟩)
 have HC1:=Lib.hid hc1
 clear hc1 f0 hk0
 go_loopw [5,6,7] (fun v p q wr=>∃(acc:List Nat) (o:Option Nat),acc.length≤n∧p=.int .i64 ((o.getD 0:Nat):Int)∧q=.bool o.isSome∧Hid (OwnI w wr v acc)∧Hid (above ss i=acc++restA ss (n - acc.length) o)∧Hid (∀x,o=some x→x < n)) (fun v _ _ _=>n - lenV v)
 case atStart=>
  refine⟨[],o0,Nat.zero_le _,rfl,rfl,OwnI.nil HC1.out,?_,fun x hx=>?_⟩
  ·show _=_
   rw[List.nil_append,List.length_nil,Nat.sub_zero,←HO.out,←aboveN_rest,←HN.out]
   rfl
  ·rw[←HN.out]
   exact parentI_lt (HO.out.trans hx)
 case round=>
  obtain⟨acc,o,hacc,rfl,rfl,HV,HA,HL⟩:=hrel
  obtain⟨VA,vc,rfl,hia⟩:=HV.out.ints
  obtain⟨m,hm⟩:∃m,acc.length=m:=⟨_,rfl⟩
  have HV2:Hid (OwnI w wr (.slice VA m vc) acc):=by rw[←hm];exact HV
  have hvc:=HV.out.calm
  clear HV
  have HV:=HV2
  clear HV2
  rw[hm] at hacc ⊢
  have f0:=Calm.at_ HV.out.calm HF.out.c0 hlt
  cases o with
  |none=>
   have hE:Hid (AboveEnd (above ss i) (.returned (.slice VA m vc)) wr):=by
    have e:=HA.out
    rw[restA_none,List.append_nil] at e
    exact⟨VA,vc,by rw[e,hm],by rw[e];exact hia⟩
   simp only[Option.getD_none,Option.isSome_none]
   clear hia
   go_wp2
   go_ret
   exact⟨hE.out,HV.out.calm⟩
  |some p=>
   simp only[Option.getD_some,Option.isSome_some]
   by_cases hlt2:m < n
   ·have hpn:=HL.out p rfl
    have HM:=Lib.hid hm
    clear hm hia
    obtain⟨o2,ho2⟩:∃o2,parentI ss p=o2:=⟨_,rfl⟩
    have HO2:=Lib.hid ho2
    have K2:Hid (∀W,Calm w W→Calls Tryz.prog 165 #[.pointer (some ⟨F,0,none⟩),.int .i64 p] W fun e w'=>e=.returned (.tuple #[.int .i64 ((o2.getD 0:Nat):Int),.bool o2.isSome])∧Calm W w'):=fun W hW=>by
     have:=K.out W p hW hpn
     rw[ho2] at this
     exact this
    clear ho2
    go_wp2_with (first
     |(at_builtin;refine wpList_append_int rfl (.tmp 31) (.tmp 33) rfl w _ acc rfl (HV.out.to ((Calm.refl wr).alloc (.cells #[.int .i64 (p:Int)] 3))) wr.heap.size 0 1 rfl p (by simp[go_sem]) (by rw[HM.out];omega) ?_;intro v5 w5 hown5)
     |(go_at_call 165;refine (K2.out w5 hown5.calm).mono ?_;rintro e w6 ⟨rfl,hc6⟩))
    go_roundw
    case rel=>
     refine⟨acc++[p],o2,by rw[List.length_append,HM.out];simp;omega,rfl,rfl,hown5.to hc6,?_,fun x hx=>?_⟩
     ·show _=_
      rw[HA.out,HM.out,List.length_append,HM.out,List.append_assoc]
      congr 1
      obtain⟨d,hd⟩:∃d,n - m=d+1:=⟨n - m - 1,by omega⟩
      rw[hd,show n - (m+[p].length)=d by simp;omega]
      show p :: aboveN ss d p=_
      rw[aboveN_rest,HO2.out]
      rfl
     ·rw[←HN.out]
      exact parentI_lt (HO2.out.trans hx)
    case measure=>
     obtain⟨A5,c5,e5,_⟩:=hown5.ints
     have hl5:(acc++[p]).length=m+1:=by rw[List.length_append,HM.out];rfl
     rw[e5]
     simp only[lenV,hl5]
     omega
   ·obtain rfl:m=n:=by omega
    have hE:Hid (AboveEnd (above ss i) (.returned (.slice VA m vc)) wr):=by
     have e:=HA.out
     rw[hm,Nat.sub_self] at e
     rw[show restA ss 0 (some p)=[] from rfl,List.append_nil] at e
     exact⟨VA,vc,by rw[e,hm],by rw[e];exact hia⟩
    clear hia hm
    go_wp2
    go_ret
    exact⟨hE.out,HV.out.calm⟩
theorem getLastD_take:∀(l:List Nat) (k x:Nat) (d:Nat),l[k]?=some x→(l.take (k+1)).getLastD d=x:=fun l k x d h=>by
 obtain⟨hlt,rfl⟩:=List.getElem?_eq_some_iff.1 h
 rw[List.take_succ_eq_append_getElem hlt,List.getLastD_concat]
set_option maxHeartbeats 2000000 in
theorem top_c (ss:List Strm) (F:Nat) (A:Option Addr) (n c i:Nat) (w:World) (hf:ForestAt w F A n c ss) (hi:i < n) :
  Calls Tryz.prog 167 #[.pointer (some ⟨F,0,none⟩),.int .i64 i] w fun e w'=>e=.returned (.int .i64 (topI ss i:Nat))∧Calm w w':=by
 have hK:=above_c ss F A n c i w hf hi
 obtain⟨l,hl⟩:∃l,above ss i=l:=⟨_,rfl⟩
 have ht:Hid (topI ss i=l.getLastD i):=by show _=_;unfold topI;rw[hl]
 have hll:l.length≤1048577:=by
  have h1:=aboveN_len (ss:=ss) ss.length i
  have h2:=hf.strms.len
  have h3:l.length≤ss.length:=by rw[←hl];exact h1
  omega
 rw[hl] at hK
 clear hf hl
 go_enter Tryz.func167,Tryz.ntmps167
 go_wp2_with (go_at_call 166;refine hK.mono ?_;rintro e w1 ⟨⟨VA,vc,rfl,hia⟩,hc1⟩)
 have HI:=Lib.hid hia
 have HC1:=Lib.hid hc1
 obtain⟨m,hm⟩:∃m,l.length=m:=⟨_,rfl⟩
 have HM:=Lib.hid hm
 rw[hm] at hll ⊢
 clear hia hc1 hm
 go_loopw [1,9] (fun u q wr=>∃k:Nat,k≤m∧q=.int .i64 k∧u=.int .i64 (((l.take k).getLastD i:Nat):Int)∧Hid (Calm w1 wr)) (fun _ q _=>m - (intOf q).toNat)
 case atStart=>exact⟨0,Nat.zero_le _,rfl,by simp,Calm.refl _⟩
 case round=>
  obtain⟨k,hk,rfl,rfl,HC⟩:=hrel
  by_cases hlt:k < m
  ·obtain⟨x,hx⟩:∃x,l[k]?=some x:=⟨_,List.getElem?_eq_getElem (by rw[HM.out];exact hlt)⟩
   obtain⟨g,rfl,hg,hat⟩:=HI.out.calm HC.out (by rw[HM.out];omega)
   have c0:=hat k x hx
   have HX:=Lib.hid hx
   clear hat hx
   go_wp2
   go_roundw
   case rel=>exact⟨k+1,by omega,by go_num,by rw[getLastD_take l k x i HX.out],HC.out⟩
   case measure=>simp[intOf];omega
  ·obtain rfl:k=m:=by omega
   have hE:Hid (topI ss i=(l.take k).getLastD i):=by show _=_;rw[ht.out,List.take_of_length_le (by rw[HM.out];exact Nat.le_refl _)]
   go_wp2
   go_ret
   exact⟨by rw[hE.out];rfl,HC1.out.trans HC.out⟩
structure BoxL (w1:World) (B:Nat) (a:Pl) (κ:Int) (np nf:Nat) (rp rf:Bool):Prop where
 lt:B < w1.heap.size
 c0:w1.cell? ⟨B,0,none⟩=some (.int .i64 κ)
 c1:w1.cell? ⟨B,1,none⟩=some (.slice a.AL np a.cl)
 c2:w1.cell? ⟨B,2,none⟩=some (.bool rp)
 c3:w1.cell? ⟨B,3,none⟩=some (.slice a.AR nf a.cr)
 c4:w1.cell? ⟨B,4,none⟩=some (.bool rf)
theorem BoxL.calm {w1 w2:World} {B:Nat} {a:Pl} {κ:Int} {np nf:Nat} {rp rf:Bool} (h:BoxL w1 B a κ np nf rp rf) (hc:Calm w1 w2):BoxL w2 B a κ np nf rp rf:=
 ⟨Nat.lt_of_lt_of_le h.lt hc.size,Calm.at_ hc h.c0 h.lt,Calm.at_ hc h.c1 h.lt,Calm.at_ hc h.c2 h.lt,Calm.at_ hc h.c3 h.lt,Calm.at_ hc h.c4 h.lt⟩
theorem BoxL.new (w:World) (a:Pl) (κ:Int) (np nf:Nat) (rp rf:Bool):BoxL (w.alloc (.cells #[.int .i64 κ,.slice a.AL np a.cl,.bool rp,.slice a.AR nf a.cr,.bool rf] 68)) w.heap.size a κ np nf rp rf:=
 ⟨by simp,by simp[go_sem],by simp[go_sem],by simp[go_sem],by simp[go_sem],by simp[go_sem]⟩
theorem imported_c (a:Pl) (κ:Int) (np nf:Nat) (rp rf:Bool) (w:World) :
  Calls Tryz.prog 198 #[.agg #[.int .i64 κ,.slice a.AL np a.cl,.bool rp,.slice a.AR nf a.cr,.bool rf]] w fun e w'=>e=.returned (.agg #[.bool false,.slice a.AL np a.cl,.bool rp,.slice a.AR nf a.cr,.bool rf])∧Calm w w':=by
 go_enter Tryz.func198,Tryz.ntmps198
 go_wp2
 refine bodyPost_ret (v:=.agg #[.bool false,.slice a.AL np a.cl,.bool rp,.slice a.AR nf a.cr,.bool rf]) ?_ rfl ⟨rfl,?_⟩
 ·rw[results_cell1 rfl]
  go_simp
 ·exact ((Calm.refl w).alloc _).alloc _
set_option maxHeartbeats 4000000 in
theorem pathLine_c (x:Line) (a:Pl) (κ:Int) (np nf:Nat) (rp rf:Bool) (w:World) (hr:RuleU w a x.rule) (hκ:x.kind=κ) (hnp:x.path.parts.length=np) (hnf:x.frm.parts.length=nf) (hrp:x.path.rest=rp) (hrf:x.frm.rest=rf) :
  Calls Tryz.prog 164 #[.agg #[.int .i64 κ,.slice a.AL np a.cl,.bool rp,.slice a.AR nf a.cr,.bool rf]] w fun e w'=>e=.returned (.bool (lineOk x))∧Calm w w':=by
 obtain⟨w1,hw1⟩:∃w1,w1=w.alloc (.cells #[.int .i64 κ,.slice a.AL np a.cl,.bool rp,.slice a.AR nf a.cr,.bool rf] 68):=⟨_,rfl⟩
 have hc1:Calm w w1:=by rw[hw1];exact (Calm.refl w).alloc _
 have hbox:BoxL w1 w.heap.size a κ np nf rp rf:=by rw[hw1];exact BoxL.new w a κ np nf rp rf
 have hru:=hr.calm hc1
 obtain⟨v,hv⟩:∃v,patErr x.path=v:=⟨_,rfl⟩
 have KP:Hid (Calls Tryz.prog 197 #[.agg #[.slice a.AL np a.cl,.bool rp]] w1 fun e w'=>e=.returned (.int .i64 v)∧Calm w1 w'):=by
  have:=pcheckG_c x.path a.AL a.cl w1 hru.lr.toG hru.lroom hru.lcap
  rw[hnp,hrp,hv] at this
  exact this
 obtain⟨rr,hrr⟩:∃rr,ruleErr x.rule=rr:=⟨_,rfl⟩
 have KR:Hid (∀W,Calm w1 W→Calls Tryz.prog 179 #[.agg #[.bool false,.slice a.AL np a.cl,.bool rp,.slice a.AR nf a.cr,.bool rf]] W fun e w'=>e=.returned (.int .i64 rr)∧Calm W w'):=fun W hW=>by
  have h1:=rule_c x.rule a W (hru.calm hW)
  unfold ruleV at h1
  have e1:x.rule.left.parts.length=np:=hnp
  have e2:x.rule.right.parts.length=nf:=hnf
  have e3:x.rule.left.rest=rp:=hrp
  have e4:x.rule.right.rest=rf:=hrf
  rw[e1,e2,e3,e4,hrr] at h1
  exact h1
 have HW:=Lib.hid hw1
 have HC:=Lib.hid hc1
 have HB:=Lib.hid hbox
 have HRU:=Lib.hid hru
 have HX:=Lib.hid (And.intro hκ (And.intro hnp (And.intro hnf (And.intro hrp hrf))))
 have HV:=Lib.hid hv
 have HR:=Lib.hid hrr
 have b1:=hbox.c1
 have b2:=hbox.c2
 rw[hw1] at b1 b2
 have hlk:Hid (lineOk x=(v == 0 && x.path.parts.getD 0 [] == viewN && (if κ=3 then rr == 0 && x.frm.parts.getD 0 [] != viewN else (κ == 1 || κ == 2 || κ == 4) && x.frm.parts.isEmpty && !rf))):=by
  show _=_
  unfold lineOk
  rw[hv,hrr,hκ,hrf]
 clear hw1 hc1 hbox hr hru hκ hnp hnf hrp hrf hv hrr
 go_enter Tryz.func164,Tryz.ntmps164
 by_cases hv0:v=0
 ·subst hv0
  obtain⟨b,o,l,hA,hb,hl,hll,hcell⟩:=HRU.out.lr.get (k:=0) (by have:=(patErr_form HV.out).1;exact this)
  obtain⟨AL,cl,AR,cr⟩:=a
  simp only at hA
  subst hA
  rw[Nat.add_zero] at hcell
  have hnp0:0 < np:=by have:=(patErr_form HV.out).1;rw[HX.out.2.1] at this;exact this
  have hl2:x.path.parts.getD 0 []=l:=by
   have e:x.path.parts[0]?=some l:=hl
   simp[List.getD_eq_getElem?_getD,e]
  obtain⟨z,hz⟩:∃z,x.frm.parts.getD 0 []=z:=⟨_,rfl⟩
  have he:x.frm.parts.isEmpty=decide (nf=0):=by
   rw[←HX.out.2.2.1]
   cases x.frm.parts <;> simp
  have hlk2:Hid (lineOk x=(l == [118,105,101,119] && (if κ=3 then rr == 0 && z != [118,105,101,119] else (κ == 1 || κ == 2 || κ == 4) && decide (nf=0) && !rf))):=by
   show _=_
   rw[hlk.out,hl2,hz,he]
   rfl
  have HZ:=Lib.hid hz
  have HB':=HB
  clear hlk hl2 hz he hl hll
  by_cases h3:κ=3∧rr=0
  ·obtain⟨rfl,rfl⟩:=h3
   obtain⟨b',o',l',hA',hb',hl',hll',hcell'⟩:=HRU.out.rr.get (k:=0) (by have:=(patErr_form (ruleErr_twin.1 HR.out).rp).1;exact this)
   simp only at hA'
   subst hA'
   rw[Nat.add_zero] at hcell'
   have hnf0:0 < nf:=by have:=(patErr_form (ruleErr_twin.1 HR.out).rp).1;rw[show x.rule.right.parts.length=nf from HX.out.2.2.1] at this;exact this
   obtain rfl:z=l':=by
    have e:x.frm.parts[0]?=some l':=hl'
    rw[←HZ.out]
    simp[List.getD_eq_getElem?_getD,e]
   clear hl' hll'
   simp only[if_true] at hlk2
   go_wp2_with (first
    |(go_at_call 197;rw[←HW.out];refine KP.out.mono ?_;rintro e w2 ⟨rfl,hc2⟩;have d0:=(HB.out.calm hc2).c0;have d1:=(HB.out.calm hc2).c1;have d2:=(HB.out.calm hc2).c2;have d3:=(HB.out.calm hc2).c3;have d4:=(HB.out.calm hc2).c4;have dl:=Calm.at_ hc2 hcell hb)
    |(go_at_call 198;refine (imported_c ⟨some ⟨b,o,none⟩,cl,some ⟨b',o',none⟩,cr⟩ 3 np nf rp rf _).mono ?_;rintro e w3 ⟨rfl,hc3⟩)
    |(go_at_call 179;refine (KR.out w3 (hc2.trans hc3)).mono ?_;rintro e w4 ⟨rfl,hc4⟩;have hc24:=hc2.trans (hc3.trans hc4);have z0:=(HB.out.calm hc24).c0;have z1:=(HB.out.calm hc24).c1;have z2:=(HB.out.calm hc24).c2;have z3:=(HB.out.calm hc24).c3;have z4:=(HB.out.calm hc24).c4;have zl:=Calm.at_ hc24 hcell' hb'))
   all_goals first
    |(go_ret;exact⟨ret_bool (by rw[hlk2.out];first | (simp[*];done) | (simp_all;done) | (simp_all [bne];done)),HC.out.trans hc2⟩)
    |(go_ret;exact⟨ret_bool (by rw[hlk2.out];first | (simp[*];done) | (simp[*,bne];done) | (simp_all [bne];done)),HC.out.trans hc24⟩)
  ·by_cases h4:κ=3
   ·subst h4
    have hr0:¬rr=0:=fun e=>h3 ⟨rfl,e⟩
    have hrb:(rr == 0)=false:=by simpa using hr0
    simp only[if_true] at hlk2
    clear h3
    go_wp2_with (first
     |(go_at_call 197;rw[←HW.out];refine KP.out.mono ?_;rintro e w2 ⟨rfl,hc2⟩;have d0:=(HB.out.calm hc2).c0;have d1:=(HB.out.calm hc2).c1;have d2:=(HB.out.calm hc2).c2;have d3:=(HB.out.calm hc2).c3;have d4:=(HB.out.calm hc2).c4;have dl:=Calm.at_ hc2 hcell hb)
     |(go_at_call 198;refine (imported_c ⟨some ⟨b,o,none⟩,cl,AR,cr⟩ 3 np nf rp rf _).mono ?_;rintro e w3 ⟨rfl,hc3⟩)
     |(go_at_call 179;refine (KR.out w3 (hc2.trans hc3)).mono ?_;rintro e w4 ⟨rfl,hc4⟩;have hc24:=hc2.trans (hc3.trans hc4)))
    all_goals first
     |(go_ret;exact⟨ret_bool (by rw[hlk2.out];first | (simp[*];done) | (simp_all;done) | (simp_all [bne];done)),HC.out.trans hc2⟩)
     |(go_ret;exact⟨ret_bool (by rw[hlk2.out];first | (simp[*];done) | (simp[*,bne];done) | (simp_all [bne];done)),HC.out.trans hc24⟩)
   ·have h3b:(κ == 3)=false:=by simpa using h4
    rw[if_neg h4] at hlk2
    clear h3
    go_wp2_with (go_at_call 197;rw[←HW.out];refine KP.out.mono ?_;rintro e w2 ⟨rfl,hc2⟩;have d0:=(HB.out.calm hc2).c0;have d1:=(HB.out.calm hc2).c1;have d2:=(HB.out.calm hc2).c2;have d3:=(HB.out.calm hc2).c3;have d4:=(HB.out.calm hc2).c4;have dl:=Calm.at_ hc2 hcell hb)
    all_goals first
     |(go_ret;exact⟨ret_bool (by rw[hlk2.out];first | (simp[*];done) | (simp_all;done) | (simp_all [bne];done)),HC.out.trans hc2⟩)
 ·have hvb:(v != 0)=true:=by simpa using hv0
  have hE:Hid (lineOk x=false):=by
   show _=_
   rw[hlk.out]
   simp[hv0]
  clear hv0
  go_wp2_with (go_at_call 197;rw[←HW.out];refine KP.out.mono ?_;rintro e w2 ⟨rfl,hc2⟩)
  go_ret
  exact⟨ret_bool hE.out.symm,HC.out.trans hc2⟩
theorem all_to {α:Type} {v:List α} {n:Nat} {P:α→Prop} (hn:v.length=n) (h:∀j q,j < n→v[j]?=some q→P q):∀r∈v,P r:=fun r hr=>by
 obtain⟨j,hj,e⟩:=List.mem_iff_getElem.1 hr
 exact h j r (by omega) (by rw[←e];exact List.getElem?_eq_getElem hj)
theorem snoc_at {α:Type} {v:List α} {k:Nat} {r:α} {P:α→Prop} (h:v[k]?=some r) (hr:P r) (hg:∀j q,j < k→v[j]?=some q→P q):∀j q,j < k+1→v[j]?=some q→P q:=fun j q hj hq=>by
 by_cases e:j=k
 ·subst e
  rw[h] at hq
  cases hq
  exact hr
 ·exact hg j q (by omega) hq
structure BoxS (w1:World) (B:Nat) (nm pa:Str) (PA:Option Addr) (np pc:Nat):Prop where
 lt:B < w1.heap.size
 c0:w1.cell? ⟨B,0,none⟩=some (.string (bs nm))
 c1:w1.cell? ⟨B,1,none⟩=some (.string (bs pa))
 c2:w1.cell? ⟨B,2,none⟩=some (.slice PA np pc)
theorem BoxS.calm {w1 w2:World} {B:Nat} {nm pa:Str} {PA:Option Addr} {np pc:Nat} (h:BoxS w1 B nm pa PA np pc) (hc:Calm w1 w2):BoxS w2 B nm pa PA np pc:=
 ⟨Nat.lt_of_lt_of_le h.lt hc.size,Calm.at_ hc h.c0 h.lt,Calm.at_ hc h.c1 h.lt,Calm.at_ hc h.c2 h.lt⟩
theorem BoxS.new (w:World) (nm pa:Str) (PA:Option Addr) (np pc:Nat):BoxS (w.alloc (.cells #[.string (bs nm),.string (bs pa),.slice PA np pc] 41)) w.heap.size nm pa PA np pc:=
 ⟨by simp,by simp[go_sem],by simp[go_sem],by simp[go_sem]⟩
set_option maxHeartbeats 4000000 in
theorem itself_c (ss:List Strm) (F:Nat) (A:Option Addr) (n c i:Nat) (w:World) (hf:ForestAt w F A n c ss) (hi:i < n) :
  Calls Tryz.prog 125 #[.pointer (some ⟨F,0,none⟩),.int .i64 i] w fun e w'=>e=.returned (.int .i64 (ownErr ss i))∧Calm w w':=by
 obtain⟨B,hB,hI⟩:=hf.idx
 have hn:=hf.hn
 have hlen:=hf.strms.len
 rw[hn] at hlen
 obtain⟨b,o,s,PA,pc,rfl,hb,hr,hat,hsu⟩:=hf.strms.get (k:=i) (by rw[hn];exact hi)
 have hlt:=hf.lt
 have f0:=hf.c0
 have c0:=hat.c0
 have c1:=hat.c1
 have c2:=hat.c2
 have hs:=strm_at hr
 obtain⟨nm,hnm⟩:∃nm,s.name=nm:=⟨_,rfl⟩
 obtain⟨pa,hpa⟩:∃pa,s.parent=pa:=⟨_,rfl⟩
 obtain⟨np,hnp⟩:∃np,s.paths.length=np:=⟨_,rfl⟩
 have hnl:=hsu.name
 rw[hnm] at c0 hnl
 rw[hpa] at c1
 rw[hnp] at c2
 have hE:Hid (ownErr ss i=if comp nm=false∨24 < nm.length∨nm=viewN then 81 else if (findI ss nm).getD 0 < i then 82 else if s.paths.all lineOk=false then 85 else if 12 < np then 80 else 0):=by
  show _=_
  unfold ownErr
  rw[hs,hnm,hnp]
 obtain⟨w1,hw1⟩:∃w1,w1=w.alloc (.cells #[.string (bs nm),.string (bs pa),.slice PA np pc] 41):=⟨_,rfl⟩
 have hc1:Calm w w1:=by rw[hw1];exact (Calm.refl w).alloc _
 have hbox:BoxS w1 w.heap.size nm pa PA np pc:=by rw[hw1];exact BoxS.new w nm pa PA np pc
 obtain⟨cv,hcv⟩:∃cv,comp nm=cv:=⟨_,rfl⟩
 have hcomp:Hid (∀W,Calls Tryz.prog 132 #[.string (bs nm)] W fun e w'=>e=.returned (.bool cv)∧W=w'):=fun W=>comp_v nm cv W (by omega) hcv
 have HW:=Lib.hid hw1
 have HC:=Lib.hid hc1
 have HB:=Lib.hid hbox
 have HCv:=Lib.hid hcv
 have HL:=Lib.hid hsu.lines
 have HNp:=Lib.hid hnp
 have HI:=Lib.hid hI
 have HBc:=Lib.hid hB
 have k0:=hbox.c0
 have hnpl:=hsu.lines.len
 rw[hnp] at hnpl
 have hbs:=bs_size nm
 clear hs hnm hpa hnp hat hsu hr hf hn hw1 hc1 hbox hcv hI hB
 cases cv with
 |false=>
  have hE2:Hid (ownErr ss i=81):=by
   show _=_
   rw[hE.out,if_pos (.inl HCv.out)]
  clear hE
  go_enter Tryz.func125,Tryz.ntmps125
  go_wp2_with (first | (go_at_call 132;rw[←HW.out];refine (hcomp.out _).mono ?_;rintro e w2 ⟨rfl,rfl⟩))
  go_ret
  exact⟨ret_int hE2.out.symm,HC.out⟩
 |true=>
  by_cases h24:24 < nm.length
  ·have hE2:Hid (ownErr ss i=81):=by
    show _=_
    rw[hE.out,if_pos (.inr (.inl h24))]
   clear hE
   go_enter Tryz.func125,Tryz.ntmps125
   go_wp2_with (first | (go_at_call 132;rw[←HW.out];refine (hcomp.out _).mono ?_;rintro e w2 ⟨rfl,rfl⟩))
   go_ret
   exact⟨ret_int hE2.out.symm,HC.out⟩
  ·by_cases hvw:nm=viewN
   ·have hvb:(nm == [118,105,101,119])=true:=by simpa[viewN] using hvw
    have hE2:Hid (ownErr ss i=81):=by
     show _=_
     rw[hE.out,if_pos (.inr (.inr hvw))]
    clear hE hvw
    go_enter Tryz.func125,Tryz.ntmps125
    go_wp2_with (first | (go_at_call 132;rw[←HW.out];refine (hcomp.out _).mono ?_;rintro e w2 ⟨rfl,rfl⟩))
    go_ret
    exact⟨ret_int hE2.out.symm,HC.out⟩
   ·have hvb:(nm == [118,105,101,119])=false:=by simpa[viewN] using hvw
    have hE2:Hid (ownErr ss i=if (findI ss nm).getD 0 < i then 82 else if s.paths.all lineOk=false then 85 else if 12 < np then 80 else 0):=by
     show _=_
     rw[hE.out,if_neg (fun h=>h.elim (fun h=>by rw[HCv.out] at h;cases h) (fun h=>h.elim h24 hvw))]
    clear hE hvw
    obtain⟨j,hj⟩:∃j,(findI ss nm).getD 0=j:=⟨_,rfl⟩
    rw[hj] at hE2
    have g0:=fun p:CalmTo w1=>p.cell (Calm.at_ HC.out HBc.out hlt) (Nat.lt_of_lt_of_le hlt HC.out.size)
    have g1:=fun p:CalmTo w1=>p.cell k0 HB.out.lt
    have g2:=fun p:CalmTo w1=>(HI.out.2 p.w nm (HC.out.trans p.h) hnl).2
    simp only[hj] at g2
    clear hj
    go_enter Tryz.func125,Tryz.ntmps125
    by_cases hji:j < i
    ·have hE3:Hid (ownErr ss i=82):=by
      show _=_
      rw[hE2.out,if_pos hji]
     clear hE2
     go_wp2_with (first | (go_at_call 132;rw[←HW.out];refine (hcomp.out _).mono ?_;rintro e w2 ⟨rfl,rfl⟩))
     refine wp_region_calm (by kernel_rfl) (by kernel_rfl) ?_
     repeat (go_big_quiet_step (fail))
     refine wpQuiet_nil ?_
     intro w7 hc7
     go_wp2
     go_ret
     exact⟨ret_int hE3.out.symm,HC.out.trans hc7⟩
    ·have hE3:Hid (ownErr ss i=if s.paths.all lineOk=false then 85 else if 12 < np then 80 else 0):=by
      show _=_
      rw[hE2.out,if_neg hji]
     clear hE2
     go_wp2_with (first | (go_at_call 132;rw[←HW.out];refine (hcomp.out _).mono ?_;rintro e w2 ⟨rfl,rfl⟩))
     refine wp_region_calm (by kernel_rfl) (by kernel_rfl) ?_
     repeat (go_big_quiet_step (fail))
     refine wpQuiet_nil ?_
     intro w7 hc7
     have k2:=(HB.out.calm hc7).c2
     have HC7:=Lib.hid hc7
     clear g0 g1 g2 hc7 k0
     go_wp2_with fail
     go_loopw [42] (fun q wr=>∃k:Nat,k≤np∧q=.int .i64 k∧Hid (∀j x,j < k→s.paths[j]?=some x→lineOk x=true)∧Hid (Calm w7 wr)) (fun q _=>np - (intOf q).toNat)
     case atStart=>exact⟨0,Nat.zero_le _,rfl,fun j x hj=>absurd hj (Nat.not_lt_zero _),Calm.refl _⟩
     case round=>
      obtain⟨k,hk,rfl,HG,HCr⟩:=hrel
      by_cases hkl:k < np
      ·obtain⟨b',o',x,a,rfl,hb',hx,hxa,hru⟩:=(HL.out.calm (HC.out.trans (HC7.out.trans HCr.out))).get (k:=k) (by rw[HNp.out];exact hkl)
       have c0:=hxa.c0
       have c1:=hxa.c1
       have c2:=hxa.c2
       have c3:=hxa.c3
       have c4:=hxa.c4
       obtain⟨κ,h0⟩:∃κ,x.kind=κ:=⟨_,rfl⟩
       obtain⟨npp,h1⟩:∃npp,x.path.parts.length=npp:=⟨_,rfl⟩
       obtain⟨nf,h2⟩:∃nf,x.frm.parts.length=nf:=⟨_,rfl⟩
       obtain⟨rp,h3⟩:∃rp,x.path.rest=rp:=⟨_,rfl⟩
       obtain⟨rf,h4⟩:∃rf,x.frm.rest=rf:=⟨_,rfl⟩
       obtain⟨lo,hlo⟩:∃lo,lineOk x=lo:=⟨_,rfl⟩
       have KL:Hid (∀W,Calm wr W→Calls Tryz.prog 164 #[.agg #[.int .i64 κ,.slice a.AL npp a.cl,.bool rp,.slice a.AR nf a.cr,.bool rf]] W fun e w'=>e=.returned (.bool lo)∧Calm W w'):=fun W hW=>by
        have:=pathLine_c x a κ npp nf rp rf W (hru.calm hW) h0 h1 h2 h3 h4
        rw[hlo] at this
        exact this
       rw[h0] at c0
       rw[h1] at c1
       rw[h3] at c2
       rw[h2] at c3
       rw[h4] at c4
       have HX:=Lib.hid hx
       have HLo:=Lib.hid hlo
       clear hxa hru h0 h1 h2 h3 h4 hx hlo
       cases lo with
       |true=>
        go_wp2_with (go_at_call 164;refine (KL.out _ ((Calm.refl _).alloc _)).mono ?_;rintro e w8 ⟨rfl,hc8⟩)
        go_roundw
        case rel=>exact⟨k+1,by omega,by go_num,snoc_at HX.out HLo.out HG.out,HCr.out.trans (((Calm.refl _).alloc _).trans hc8)⟩
        case measure=>simp[intOf];omega
       |false=>
        have hE4:Hid (ownErr ss i=85):=by
         show _=_
         rw[hE3.out,if_pos]
         rw[List.all_eq_false]
         exact⟨x,List.mem_of_getElem? HX.out,by rw[HLo.out];decide⟩
        go_wp2_with (go_at_call 164;refine (KL.out _ ((Calm.refl _).alloc _)).mono ?_;rintro e w8 ⟨rfl,hc8⟩)
        go_ret
        exact⟨ret_int hE4.out.symm,HC.out.trans (HC7.out.trans (HCr.out.trans (((Calm.refl _).alloc _).trans hc8)))⟩
      ·obtain rfl:k=np:=by omega
       have hE4:Hid (ownErr ss i=if 12 < k then 80 else 0):=by
        show _=_
        have hal:s.paths.all lineOk=true:=List.all_eq_true.2 (all_to HNp.out HG.out)
        rw[hE3.out,if_neg (by rw[hal];decide)]
       have k3:=(HB.out.calm (HC7.out.trans HCr.out)).c2
       by_cases h12:12 < k
       ·go_wp2
        go_ret
        exact⟨by rw[hE4.out,if_pos h12];rfl,HC.out.trans (HC7.out.trans HCr.out)⟩
       ·go_wp2
        go_ret
        exact⟨by rw[hE4.out,if_neg h12];rfl,HC.out.trans (HC7.out.trans HCr.out)⟩
set_option maxHeartbeats 1000000 in
theorem parmiss_c (ss:List Strm) (F:Nat) (A:Option Addr) (n c i:Nat) (w:World) (hf:ForestAt w F A n c ss) (hi:i < n) :
  Calls Tryz.prog 126 #[.pointer (some ⟨F,0,none⟩),.int .i64 i] w fun e w'=>e=.returned (.int .i64 (parErr ss i))∧Calm w w':=by
 have hk:=parent_c ss F A n c i w hf hi
 have hn:=hf.hn
 have hlen:=hf.strms.len
 rw[hn] at hlen
 obtain⟨b,o,s,PA,pc,rfl,hb,hr,hat,hsu⟩:=hf.strms.get (k:=i) (by rw[hn];exact hi)
 have hlt:=hf.lt
 have HF0:=Lib.hid hf.c0
 have HC1:=Lib.hid hat.c1
 have hs:=strm_at hr
 obtain⟨pi,hpi⟩:∃pi,parentI ss i=pi:=⟨_,rfl⟩
 have hE:Hid (parErr ss i=if pi=none∧s.parent≠[] then 83 else 0):=by
  show _=_
  unfold parErr
  rw[hs,hpi]
 rw[hpi] at hk
 unfold parV at hk
 obtain⟨pa,hpa⟩:∃pa,s.parent=pa:=⟨_,rfl⟩
 rw[hpa] at HC1 hE
 clear hs hat hsu hr hf hn hpi hpa
 go_enter Tryz.func126,Tryz.ntmps126
 cases pi with
 |some p=>
  simp only[Option.getD_some,Option.isSome_some] at hk
  go_wp2_with (go_at_call 165;refine hk.mono ?_;rintro e w1 ⟨rfl,hc1⟩)
  go_ret
  exact⟨ret_int (by rw[hE.out];simp),hc1⟩
 |none=>
  simp only[Option.getD_none,Option.isSome_none] at hk
  cases pa with
  |nil=>
   have e0:Hid (bs []=⟨#[]⟩):=rfl
   go_wp2_with (go_at_call 165;refine hk.mono ?_;rintro e w1 ⟨rfl,hc1⟩;have f0:=Calm.at_ hc1 HF0.out hlt;have c1:=Calm.at_ hc1 HC1.out hb;rw[e0.out] at c1)
   go_ret
   exact⟨ret_int (by rw[hE.out];simp),hc1⟩
  |cons x t=>
   have hne:(x :: t).isEmpty=false:=rfl
   have hE2:Hid (parErr ss i=83):=by
    show _=_
    rw[hE.out,if_pos ⟨rfl,by simp⟩]
   clear hE
   obtain⟨pa,hpa⟩:∃pa,x :: t=pa:=⟨_,rfl⟩
   rw[hpa] at HC1 hne
   clear hpa
   go_wp2_with (go_at_call 165;refine hk.mono ?_;rintro e w1 ⟨rfl,hc1⟩;have f0:=Calm.at_ hc1 HF0.out hlt;have c1:=Calm.at_ hc1 HC1.out hb)
   go_ret
   exact⟨ret_int hE2.out.symm,hc1⟩
theorem above_len {ss:List Strm} {i:Nat} (h:ss.length≤1048577):(above ss i).length≤1048577:=Nat.le_trans (aboveN_len _ _) h
set_option maxHeartbeats 1000000 in
theorem deep_c (ss:List Strm) (F:Nat) (A:Option Addr) (n c i:Nat) (w:World) (hf:ForestAt w F A n c ss) (hi:i < n) :
  Calls Tryz.prog 128 #[.pointer (some ⟨F,0,none⟩),.int .i64 i] w fun e w'=>e=.returned (.int .i64 (deepErr ss i))∧Calm w w':=by
 have hk:=above_c ss F A n c i w hf hi
 have hlen:=above_len (i:=i) hf.strms.len
 have hE:Hid (deepErr ss i=if 6 < 1+(above ss i).length then 80 else 0):=rfl
 obtain⟨l,hl⟩:∃l,above ss i=l:=⟨_,rfl⟩
 rw[hl] at hk hlen hE
 obtain⟨m,hm⟩:∃m,l.length=m:=⟨_,rfl⟩
 have hk2:Calls Tryz.prog 166 #[.pointer (some ⟨F,0,none⟩),.int .i64 i] w fun e w'=>(∃A2 c2,e=.returned (.slice A2 m c2))∧Calm w w':=hk.mono fun e w' ⟨⟨A2,c2,h1,_⟩,h2⟩=>⟨⟨A2,c2,by rw[h1,hm]⟩,h2⟩
 rw[hm] at hE hlen
 clear hk hf hl hm
 go_enter Tryz.func128,Tryz.ntmps128
 by_cases h6:6 < 1+m
 ·have h6':(6:Int) < 1+(m:Int):=by omega
  go_wp2_with (go_at_call 166;refine hk2.mono ?_;rintro e w1 ⟨⟨VA,vc,rfl⟩,hc1⟩)
  go_ret
  exact⟨ret_int (by rw[hE.out,if_pos h6]),hc1⟩
 ·have h6':¬(6:Int) < 1+(m:Int):=by omega
  go_wp2_with (go_at_call 166;refine hk2.mono ?_;rintro e w1 ⟨⟨VA,vc,rfl⟩,hc1⟩)
  go_ret
  exact⟨ret_int (by rw[hE.out,if_neg h6]),hc1⟩
set_option maxHeartbeats 1000000 in
theorem cycle_c (ss:List Strm) (F:Nat) (A:Option Addr) (n c i:Nat) (w:World) (hf:ForestAt w F A n c ss) (hi:i < n) :
  Calls Tryz.prog 127 #[.pointer (some ⟨F,0,none⟩),.int .i64 i] w fun e w'=>e=.returned (.int .i64 (cycErr ss i))∧Calm w w':=by
 have hk:=above_c ss F A n c i w hf hi
 have hlen:=above_len (i:=i) hf.strms.len
 have hnn:n≤1048577:=by rw[←hf.hn];exact hf.strms.len
 have hE:Hid (cycErr ss i=if i∈above ss i then 84 else 0):=rfl
 obtain⟨l,hl⟩:∃l,above ss i=l:=⟨_,rfl⟩
 rw[hl] at hk hlen hE
 obtain⟨m,hm⟩:∃m,l.length=m:=⟨_,rfl⟩
 unfold AboveEnd at hk
 rw[hm] at hk hlen
 have HM:=Lib.hid hm
 clear hf hl hm
 go_enter Tryz.func127,Tryz.ntmps127
 go_wp2_with (go_at_call 166;refine hk.mono ?_;rintro e w1 ⟨⟨VA,vc,rfl,hia⟩,hc1⟩)
 have HI:=Lib.hid hia
 have HC1:=Lib.hid hc1
 clear hia hc1 hk
 go_loopw [11] (fun q wr=>∃k:Nat,k≤m∧q=.int .i64 k∧Hid (∀j x,j < k→l[j]?=some x→x≠i)∧Hid (Calm w1 wr)) (fun q _=>m - (intOf q).toNat)
 case atStart=>exact⟨0,Nat.zero_le _,rfl,fun j x hj=>absurd hj (Nat.not_lt_zero _),Calm.refl _⟩
 case round=>
  obtain⟨k,hk,rfl,HG,HC⟩:=hrel
  by_cases hlt:k < m
  ·obtain⟨x,hx⟩:∃x,l[k]?=some x:=⟨_,List.getElem?_eq_getElem (by rw[HM.out];exact hlt)⟩
   obtain⟨g,rfl,hg,hat⟩:=HI.out.calm HC.out (by rw[HM.out];omega)
   have c0:=hat k x hx
   have HX:=Lib.hid hx
   clear hat hx
   by_cases hxi:x=i
   ·subst hxi
    have hE2:Hid (cycErr ss x=84):=by
     show _=_
     rw[hE.out,if_pos (List.mem_of_getElem? HX.out)]
    go_wp2
    go_ret
    exact⟨ret_int hE2.out.symm,HC1.out.trans HC.out⟩
   ·have hxb:((x:Int) == (i:Int))=false:=by simpa using (by omega:¬(x:Int)=i)
    have HXI:=Lib.hid hxi
    clear hxi
    go_wp2
    go_roundw
    case rel=>exact⟨k+1,by omega,by go_num,snoc_at HX.out HXI.out HG.out,HC.out⟩
    case measure=>simp[intOf];omega
  ·obtain rfl:k=m:=by omega
   have hE2:Hid (cycErr ss i=0):=by
    show _=_
    rw[hE.out,if_neg]
    intro hmem
    exact all_to HM.out HG.out i hmem rfl
   go_wp2
   go_ret
   exact⟨by rw[hE2.out];rfl,HC1.out.trans HC.out⟩
end Go.Proofs.YtcofdlipapnohaaGreatDoor
