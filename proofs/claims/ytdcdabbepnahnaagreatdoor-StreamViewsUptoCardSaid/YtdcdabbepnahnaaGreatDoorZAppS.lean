/- Appends to rows of strings of the call's own, and where they lie then. -/
import Derived.Test.YtdcdabbepnahnaaGreatDoorZCopyP
set_option linter.unusedVariables false
set_option linter.unusedSimpArgs false
namespace Go.Proofs.YtdcdabbepnahnaaGreatDoor
open Go Go.RowKit Sy
theorem run_append_blk {w:World} {base n c b off:Nat} {v:Value} {xs:List Value} {l:Str} (ty:TypeId) (hown:w.ownsRow base 9 1 v n xs) (hcell:w.cell? ⟨b,off,none⟩=some (.string (bs l))) (hlen:n≤1000000) (hbase:base≤w.heap.size) :
  ∃v' w',(Builtin.append_ #[41,41] ty #[v,.slice (some ⟨b,off,none⟩) 1 c]).run Tryz.prog w=.ok v' w'∧w'.ownsRow base 9 1 v' (n+1) (xs++[.string (bs l)])∧w.grownBy w' v.ownBlock ∧
   (∀k,v'.ownBlock=some k→v.ownBlock=some k∨k=w.heap.size):=by
 obtain⟨i0,hi0,hz0,hz1,hz2⟩:=info_parts info_strE
 have hnews:∀(j:Nat) (u:Value),[Value.string (bs l)][j]?=some u→w.cell? ((⟨b,off,none⟩:Addr).add j)=some u:=fun j u hj=>by
  cases j with
  |zero=>
   simp only[List.getElem?_cons_zero,Option.some.injEq] at hj
   subst hj
   simpa[Addr.add_lit] using hcell
  |succ j=>simp at hj
 have h1:∀u∈[Value.string (bs l)],u.oneCell'=true:=by simp[Value.oneCell']
 have hby:(n+1) * i0.bytes≤140737488355328:=by rw[hz2];omega
 obtain⟨v',w',hr,h2,h3,_⟩:=run_append_own (P:=Tryz.prog) w base 41 ty 9 i0 _ 1 16 Tryz.underlying41 hi0 hz0 hz1 hz2 rfl (by decide) v n xs hown ⟨b,off,none⟩ 1 c [.string (bs l)] rfl hnews h1 (by unfold maxLen;omega) (by omega) hbase
 refine⟨v',w',hr,h2,h3,?_⟩
 rcases hown.2 with⟨rfl,rfl⟩ | ⟨g,cap,cur,rfl,hbg,hg,hnc,hcm,hcs,htake⟩
 ·have hr2:=run_append_nil (P:=Tryz.prog) w 41 ty 9 i0 _ Tryz.underlying41 hi0 hz0 ⟨b,off,none⟩ 1 c [.string (bs l)] (by rw[hz1];rfl) hnews (by omega) (by omega) (by rw[hz2];omega)
  rw[hr2] at hr
  injection hr with hr _
  subst hr
  intro k hk
  exact .inr (by simpa[Value.ownBlock,eq_comm] using hk)
 ·by_cases hroom:n+1≤cap
  ·have hr2:=run_append_room (P:=Tryz.prog) w 41 ty 9 i0 Tryz.underlying41 hi0 g n cap cur hg ⟨b,off,none⟩ 1 c [.string (bs l)] (by rw[hz1];rfl) hnews h1 hroom (by rw[hz1,hcs];simp;omega)
   rw[hr2] at hr
   injection hr with hr _
   subst hr
   intro k hk
   exact .inl (by simpa[Value.ownBlock] using hk)
  ·have holds:∀j u,xs[j]?=some u→w.cell? ((⟨g,0,none⟩:Addr).add j)=some u:=hown.cells (g:=g) rfl
   have hr2:=run_append_grow (P:=Tryz.prog) w 41 ty 9 i0 _ Tryz.underlying41 hi0 hz0 ⟨g,0,none⟩ n cap xs (by rw[hz1];exact hown.1) holds ⟨b,off,none⟩ 1 c [.string (bs l)] (by rw[hz1];rfl) hnews (by omega) (by omega) (growslice_fits (by omega) hby)
   rw[hr2] at hr
   injection hr with hr _
   subst hr
   intro k hk
   exact .inr (by simpa[Value.ownBlock,eq_comm] using hk)
theorem wpList_append_str2 {ops:Array Oper} {rest:List Oper} {o:Oper} {a:Act} {Q:Exit→Act→World→Prop} {w:World} (hgd:o.guard=none) (s x:Operand)
  (ho:o.op=.call { callee:=.builtin .append,args:=#[s,x],argTypes:=#[41,41] }) (w0:World) (v:Value) (ls:List Str) (hs:a.eval s=v) (hown:OwnS w0 w v ls)
  (b off c:Nat) (hx:a.eval x=.slice (some ⟨b,off,none⟩) 1 c) (l:Str) (hcell:w.cell? ⟨b,off,none⟩=some (.string (bs l))) (hlen:ls.length≤1000000)
  (h:∀v' w',OwnS w0 w' v' (ls++[l])→w.grownBy w' v.ownBlock→(∀k,v'.ownBlock=some k→v.ownBlock=some k∨k=w.heap.size)→wpList Tryz.prog ops Q rest (a.put o.dst v') w'):wpList Tryz.prog ops Q (o :: rest) a w:=by
 refine wpList_plain hgd fun _ hK=>?_
 obtain⟨v',w',hr,h2,h3,h4⟩:=run_append_blk o.type hown.own hcell hlen hown.calm.size
 unfold Oper.wp execOp
 simp only[ho,resolve,invoke,builtin,Sem.run_bind,Sem.run_pure,Result.andThen_ok,List.map_toArray,List.map_cons,List.map_nil,hs,hx]
 rw[hr]
 exact hK _ _ (h v' w' ⟨Below.trans hown.calm (owns_below hown.own hown.calm.size h3),by rw[List.length_append];simpa[strCells] using h2⟩ h3 h4)
theorem StrsR.grown {w w':World} {A:Option Addr} {ls:List Str} {row:Option Nat} (h:StrsR w A ls) (hg:w.grownBy w' row) (hne:∀a,A=some a→row≠some a.block):StrsR w' A ls:=by
 refine⟨h.len,h.each,fun h0=>?_⟩
 obtain⟨b,o,hA,hb,hk⟩:=h.at_ h0
 exact⟨b,o,hA,Nat.lt_of_lt_of_le hb hg.size,fun k l hl=>hg.cell (hk k l hl) (fun e=>hne _ hA e.symm)⟩
theorem StrsG.grown {w w':World} {A:Option Addr} {ls:List Str} {row:Option Nat} (h:StrsG w A ls) (hg:w.grownBy w' row) (hne:∀a,A=some a→row≠some a.block):StrsG w' A ls:=by
 refine⟨h.len,h.each,fun h0=>?_⟩
 obtain⟨b,o,hA,hb,hk⟩:=h.at_ h0
 exact⟨b,o,hA,Nat.lt_of_lt_of_le hb hg.size,fun k l hl=>hg.cell (hk k l hl) (fun e=>hne _ hA e.symm)⟩
end Go.Proofs.YtdcdabbepnahnaaGreatDoor
