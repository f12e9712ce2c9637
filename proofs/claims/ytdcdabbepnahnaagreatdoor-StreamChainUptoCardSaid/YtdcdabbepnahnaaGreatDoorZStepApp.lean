/- An append of a whole slice of strings as a step of a region that draws its order. -/
import Derived.Deep.RegionLaw
import Derived.Test.YtdcdabbepnahnaaGreatDoorZCopyP
import Derived.Test.YtdcdabbepnahnaaGreatDoorZOwn
set_option linter.unusedVariables false
set_option linter.unusedSimpArgs false
namespace Go.Proofs.YtdcdabbepnahnaaGreatDoor
open Go Go.RowKit Sy
theorem step_app {ops : Array Oper} {o : Oper} {a : Act} {w : World} {K : Act → World → Prop} {Q : Exit → Act → World → Prop} {E : Prop}
  (hg : o.guard = none) (s x : Operand) (hop : o.op = Op.call { callee:=Callee.builtin Builtin.append,args:=#[s,x],argTypes:=#[41,41] })
  (w0 : World) (v : Value) (ls : List Str) (hs : a.eval s = v) (hown : OwnS w0 w v ls) (AX : Option Addr) (m c : Nat) (hx : a.eval x = .slice AX m c) (news : List Str) (hm : news.length = m) (hrd : StrsU w AX news) (hl : ls.length + m ≤ 4000000)
  (hK : ∀ v' w',OwnS w0 w' v' (ls ++ news) → K (a.put o.dst v') w') :
  if Region.wanted o (yielded ops a.tmps) = true then Oper.wp Tryz.prog o a w K Q else E:=by
 have hw : Region.wanted o (yielded ops a.tmps) = true:=by simp [Region.wanted,hg]
 rw [if_pos hw]
 obtain ⟨i0,hi0,hz0,hz1,hz2⟩:=info_parts info_strE
 have hrun : ∃ v' w',(Builtin.append_ #[41,41] o.type #[v,.slice AX m c]).run Tryz.prog w = .ok v' w' ∧ OwnS w0 w' v' (ls ++ news):=by
  cases AX with
  |none=>
   have h0 : news = []:=by
    cases news with
    |nil=>rfl
    |cons y t=>
     obtain ⟨b,o',hA,_⟩:=hrd.at_ (by simp)
     cases hA
   subst h0
   obtain rfl : 0 = m:=by simpa using hm
   refine ⟨v,w,?_,by rw [List.append_nil];exact hown⟩
   rcases hown.own.2 with ⟨rfl,h1⟩ | ⟨g,cap,cur,rfl,_,_,hnc,_⟩
   ·simp [Builtin.append_,run_underlying Tryz.underlying41,sizeOf,typeInfo,hi0,Builtin.lenOf,Builtin.firstCells]
   ·simp [Builtin.append_,run_underlying Tryz.underlying41,sizeOf,typeInfo,hi0,Builtin.lenOf,Builtin.firstCells,hnc,storeCells]
  |some ad=>
   have hnews : ∀ (j : Nat) (u : Value),(strCells news)[j]? = some u → w.cell? (ad.add j) = some u:=fun j u hj=>by
    simp only [strCells,List.getElem?_map,Option.map_eq_some_iff] at hj
    obtain ⟨l,hl1,rfl⟩:=hj
    obtain ⟨b,o',hA,hb,hk⟩:=hrd.at_ (by have:=(List.getElem?_eq_some_iff.1 hl1).1;omega)
    obtain rfl:=Option.some.inj hA
    simpa [Addr.add_lit] using hk j l hl1
   have h1 : ∀ u ∈ strCells news,u.oneCell' = true:=fun u hu=>by
    obtain ⟨l,_,rfl⟩:=List.mem_map.1 hu
    rfl
   obtain ⟨v',w',hr,h2,h3,_⟩:=run_append_own (P:=Tryz.prog) w w0.heap.size 41 o.type 9 i0 _ 1 16 Tryz.underlying41 hi0 hz0 hz1 hz2 rfl (by decide) v ls.length (strCells ls) hown.own ad m c (strCells news) (by rw [strCells,List.length_map,hm,Nat.mul_one]) hnews h1 (by unfold maxLen;omega) (by omega) hown.calm.size
   exact ⟨v',w',hr,Below.trans hown.calm (owns_below hown.own hown.calm.size h3),by rw [List.length_append,hm];simpa [strCells] using h2⟩
 obtain ⟨v',w',hr,h2⟩:=hrun
 unfold Oper.wp
 simp [execOp,hop,resolve,invoke,builtin,hs,hx,Result.andThen]
 rw [hr]
 exact hK v' w' h2

end Go.Proofs.YtdcdabbepnahnaaGreatDoor
