/- New slices of strings; copies of patterns. -/
import Derived.Lib.SplitLaws
import Derived.Lib.Split
import Derived.Lib.Join
import Derived.Deep.QuietTactic
import Derived.BigQuiet
import Derived.OwnWalk
import Derived.Laws.AppendOwn
import Derived.Deep.AppendLies
import Derived.Deep.RegionWith
import Derived.Deep.Heap
import Derived.Test.YtcofdlipapnohaaGreatDoorZWalkA
import Derived.Test.YtcofdlipapnohaaGreatDoorZShelf
set_option linter.unusedVariables false
set_option linter.unusedSimpArgs false
namespace Go.Proofs.YtcofdlipapnohaaGreatDoor.Sy
def slash:Str→List Str
 |[]=>[[]]
 |c :: s=>if c=47 then [] :: slash s else match slash s with
  |[]=>[[c]]
  |p :: ps=>(c :: p) :: ps
theorem slash_ne:∀s,slash s≠[]
 |[]=>by simp[slash]
 |c :: s=>by
  unfold slash
  split
  ·simp
  ·split <;> simp
theorem slash_cons (c:UInt8) (s:Str) (h:c≠47):∃p ps,slash s=p :: ps∧slash (c :: s)=(c :: p) :: ps:=by
 rcases hs:slash s with _ | ⟨p,ps⟩
 ·exact absurd hs (slash_ne s)
 ·exact⟨p,ps,rfl,by rw[slash,if_neg h,hs]⟩
theorem slash_len:∀s,(slash s).length≤s.length+1
 |[]=>by simp[slash]
 |c :: s=>by
  by_cases h:c=47
  ·rw[slash,if_pos h]
   have:=slash_len s
   simp only[List.length_cons]
   omega
  ·obtain⟨p,ps,h1,h2⟩:=slash_cons c s h
   have:=slash_len s
   rw[h1] at this
   rw[h2]
   simp only[List.length_cons] at this ⊢
   omega
theorem slash_each:∀s,∀l∈slash s,l.length≤s.length
 |[],l,h=>by
  simp[slash] at h
  simp[h]
 |c :: s,l,h=>by
  by_cases hc:c=47
  ·rw[slash,if_pos hc] at h
   rcases List.mem_cons.1 h with rfl | h
   ·simp
   ·have:=slash_each s l h
    simp only[List.length_cons]
    omega
  ·obtain⟨p,ps,h1,h2⟩:=slash_cons c s hc
   rw[h2] at h
   rcases List.mem_cons.1 h with rfl | h
   ·have:=slash_each s p (by rw[h1];simp)
    simp only[List.length_cons]
    omega
   ·have:=slash_each s l (by rw[h1];simp[h])
    simp only[List.length_cons]
    omega
theorem slash_no:∀s:Str,(47:UInt8)∉s→slash s=[s]
 |[],_=>rfl
 |c :: s,h=>by
  have hc:c≠47:=fun e=>h (by simp[e])
  have ih:=slash_no s (fun hm=>h (by simp[hm]))
  rw[slash,if_neg hc,ih]
theorem slash_app:∀(a r:Str),(47:UInt8)∉a→slash (a++47 :: r)=a :: slash r
 |[],r,_=>by rw[List.nil_append,slash,if_pos rfl]
 |c :: a,r,h=>by
  have hc:c≠47:=fun e=>h (by simp[e])
  have ih:=slash_app a r (fun hm=>h (by simp[hm]))
  rw[List.cons_append,slash,if_neg hc,ih]
theorem join47_one (x:Str):Lib.join [x] [47]=x:=Lib.join_one x [47]
theorem join47_cons (x y:Str) (r:List Str):Lib.join (x :: y :: r) [47]=x++47 :: Lib.join (y :: r) [47]:=by
 simp[Lib.join,List.intercalate]
theorem join_slash:∀s:Str,Lib.join (slash s) [47]=s
 |[]=>by simp[slash,join47_one]
 |c :: s=>by
  have ih:=join_slash s
  by_cases hc:c=47
  ·rw[slash,if_pos hc]
   rcases hs:slash s with _ | ⟨p,ps⟩
   ·exact absurd hs (slash_ne s)
   ·rw[join47_cons,←hs,ih,hc]
    rfl
  ·obtain⟨p,ps,h1,h2⟩:=slash_cons c s hc
   rw[h2]
   rw[h1] at ih
   cases ps with
   |nil=>
    rw[join47_one] at ih ⊢
    rw[ih]
   |cons q qs=>
    rw[join47_cons] at ih ⊢
    rw[←ih]
    rfl
theorem slash_join:∀ls:List Str,ls≠[]→(∀l∈ls,(47:UInt8)∉l)→slash (Lib.join ls [47])=ls
 |[],h,_=>absurd rfl h
 |[a],_,h=>by rw[join47_one,slash_no a (h a (by simp))]
 |a :: b :: t,_,h=>by
  rw[join47_cons,slash_app _ _ (h a (by simp)),slash_join (b :: t) (by simp) (fun l hl=>h l (by simp[hl]))]
theorem splitK_slash:∀s:Str,Lib.splitK [47] 0 (Lib.count s [47]) s=slash s
 |[]=>by rw[Lib.count_one];rfl
 |c :: s=>by
  have ih:=splitK_slash s
  by_cases hc:c=47
  ·subst hc
   have hi:Lib.index (47 :: s) [47]=0:=by simp[Lib.index]
   rw[Lib.count_cons_eq,Nat.add_comm,Lib.splitK,hi,if_neg (by decide),slash,if_pos rfl]
   simp only[Int.toNat_zero,Nat.zero_add,List.take_zero,List.length_cons,List.length_nil,List.drop_succ_cons,List.drop_zero]
   rw[ih]
  ·obtain⟨p,ps,h1,h2⟩:=slash_cons c s hc
   rw[Lib.count_cons_ne _ _ _ hc,h2]
   rw[h1] at ih
   have hpre:([47]:List UInt8).isPrefixOf (c :: s)=false:=by
    simp[List.isPrefixOf,Ne.symm hc]
   rcases hk:Lib.count s [47] with _ | k
   ·rw[hk] at ih
    simp only[Lib.splitK,List.cons.injEq] at ih ⊢
    obtain⟨rfl,rfl⟩:=ih
    simp
   ·rw[hk] at ih
    rw[Lib.splitK] at ih ⊢
    have hci:Lib.index (c :: s) [47]=if Lib.index s [47] == -1 then -1 else Lib.index s [47]+1:=by
     rw[Lib.index,hpre]
     rfl
    rcases hx:(Lib.index s [47] == -1) with _ | _
    ·rw[hx] at hci ih
     have hge:=Lib.index_ge s [47]
     have hne:Lib.index s [47]≠-1:=by
      intro e
      rw[e] at hx
      exact absurd hx (by decide)
     obtain⟨i,hi⟩:∃i:Nat,Lib.index s [47]=i:=⟨(Lib.index s [47]).toNat,by omega⟩
     rw[hi] at ih hci
     simp only[Bool.false_eq_true,if_false] at hci ih
     rw[hci]
     have hb:((i:Int)+1 == -1)=false:=by
      rw[beq_eq_false_iff_ne]
      omega
     have e1:((i:Int)+1).toNat=i+1:=by omega
     have e2:((i:Int)).toNat=i:=by omega
     rw[hb,if_neg (by simp),e1]
     rw[e2] at ih
     simp only[Nat.add_zero,List.length_cons,List.length_nil,Nat.zero_add,List.cons.injEq] at ih
     obtain⟨ih1,ih2⟩:=ih
     simp only[Nat.add_zero,List.length_cons,List.length_nil,Nat.zero_add,List.cons.injEq,List.take_succ_cons,List.drop_succ_cons]
     exact⟨⟨trivial,ih1⟩,ih2⟩
    ·rw[hx] at hci ih
     simp only[if_true] at hci ih
     rw[hci]
     simp only[beq_self_eq_true,if_true]
     simp only[List.cons.injEq] at ih
     obtain⟨rfl,rfl⟩:=ih
     rfl
def pathParts (p:Str):Option (List Str):=if p.take 2=[47,47]∧(slash (p.drop 2)).all comp=true then some (slash (p.drop 2)) else none
def pathOf (p:Str):Option (List Str):=match pathParts p with
 |some l=>if 2≤l.length then some l else none
 |none=>none
def pathStr (l:List Str):Str:=47 :: 47 :: Lib.join l [47]
theorem comp_no47 {l:Str} (h:comp l=true):(47:UInt8)∉l:=by
 cases l with
 |nil=>cases h
 |cons c s=>
  simp only[comp,Bool.and_eq_true,List.all_eq_true] at h
  intro hm
  rcases List.mem_cons.1 hm with e | hm
  ·rw[←e] at h
   exact absurd h.1.2 (by decide)
  ·exact absurd (h.2 47 hm) (by decide)
theorem comp_ne {l:Str} (h:comp l=true):l≠[]:=by
 rintro rfl
 cases h
theorem comp_noStar {l:Str} (h:comp l=true):isStar l=false:=by
 cases l with
 |nil=>cases h
 |cons c s=>
  simp only[comp,Bool.and_eq_true] at h
  rcases hc:isStar (c :: s) with _ | _
  ·rfl
  ·have e:c=42:=by simpa[isStar] using hc
   subst e
   exact absurd h.1.2 (by decide)
theorem pathParts_some {p:Str} {l:List Str} (h:pathParts p=some l):l≠[]∧l.all comp=true∧p=pathStr l:=by
 unfold pathParts at h
 split at h
 ·rename_i hc
  simp only[Option.some.injEq] at h
  subst h
  refine⟨slash_ne _,hc.2,?_⟩
  rw[pathStr,join_slash]
  have:=List.take_append_drop 2 p
  rw[hc.1] at this
  exact this.symm
 ·cases h
theorem pathParts_str {l:List Str} (h0:l≠[]) (hc:l.all comp=true):pathParts (pathStr l)=some l:=by
 have hs:slash ((pathStr l).drop 2)=l:=by
  show slash (Lib.join l [47])=l
  exact slash_join l h0 (fun x hx=>comp_no47 (List.all_eq_true.1 hc x hx))
 unfold pathParts
 rw[hs,if_pos ⟨rfl,hc⟩]
theorem pathOf_some {p:Str} {l:List Str} (h:pathOf p=some l):2≤l.length∧l.all comp=true∧p=pathStr l:=by
 unfold pathOf at h
 split at h
 ·rename_i l' hl
  split at h
  ·simp only[Option.some.injEq] at h
   subst h
   obtain⟨_,h2,h3⟩:=pathParts_some hl
   exact⟨‹_›,h2,h3⟩
  ·cases h
 ·cases h
theorem pathOf_str {l:List Str} (h2:2≤l.length) (hc:l.all comp=true):pathOf (pathStr l)=some l:=by
 have h0:l≠[]:=by
  rintro rfl
  simp at h2
 rw[pathOf,pathParts_str h0 hc]
 simp[h2]
def matchL (p:Pat) (l:List Str):Bool:=reaches p l.length && (List.range p.parts.length).all fun j=>mtch (pAt p j) (l.getD j [])
def matchS (p:Pat) (s:Str):Bool:=match pathOf s with
 |some l=>okPat p && matchL p l
 |none=>false
def cap1 (part c:Str):Str:=c.take (c.length - part.tail.length)
def capsTo (p:Pat) (l:List Str) (k:Nat):List Str:=(List.range k).flatMap fun j=>if isStar (pAt p j) then [cap1 (pAt p j) (l.getD j [])] else []
def caps (p:Pat) (l:List Str):List Str:=capsTo p l p.parts.length++(if p.rest then [Lib.join (l.drop p.parts.length) [47]] else [])
def capsS (p:Pat) (s:Str):List Str:=match pathOf s with
 |some l=>if okPat p && matchL p l then caps p l else []
 |none=>[]
theorem capsTo_succ (p:Pat) (l:List Str) (k:Nat):capsTo p l (k+1)=capsTo p l k++(if isStar (pAt p k) then [cap1 (pAt p k) (l.getD k [])] else []):=by
 simp[capsTo,List.range_succ]
def matchTo (p:Pat) (l:List Str) (k:Nat):Bool:=(List.range k).all fun j=>mtch (pAt p j) (l.getD j [])
theorem matchTo_succ (p:Pat) (l:List Str) (k:Nat):matchTo p l (k+1)=(matchTo p l k && mtch (pAt p k) (l.getD k [])):=by
 simp[matchTo,List.range_succ]
theorem matchTo_stop {p:Pat} {l:List Str} {k n:Nat} (hk:k < n) (h:mtch (pAt p k) (l.getD k [])=false):matchTo p l n=false:=by
 rw[matchTo,List.all_eq_false]
 exact⟨k,by simpa using hk,by simp only[h];simp⟩
theorem matchL_eq (p:Pat) (l:List Str):matchL p l=(reaches p l.length && matchTo p l p.parts.length):=rfl
theorem capsTo_length (p:Pat) (l:List Str):∀k,(capsTo p l k).length≤k
 |0=>by simp[capsTo]
 |k+1=>by
  have:=capsTo_length p l k
  rw[capsTo_succ,List.length_append]
  split <;> simp <;> omega
theorem capsTo_each {p:Pat} {l:List Str} {B:Nat} (h:∀x∈l,x.length≤B):∀k,∀x∈capsTo p l k,x.length≤B
 |0,x,hx=>by simp[capsTo] at hx
 |k+1,x,hx=>by
  rw[capsTo_succ,List.mem_append] at hx
  rcases hx with hx | hx
  ·exact capsTo_each h k x hx
  ·split at hx
   ·rw[List.mem_singleton.1 hx]
    have h1:(l.getD k []).length≤B:=by
     rw[List.getD_eq_getElem?_getD]
     rcases e:l[k]? with _ | y
     ·simp
     ·exact h y (List.mem_of_getElem? e)
    simp only[cap1,List.length_take]
    omega
   ·cases hx
def hasL (b:Pat) (hs:List Pat) (l:List Str):Bool:=matchL b l && !(hs.any fun h=>matchL h l)
end Go.Proofs.YtcofdlipapnohaaGreatDoor.Sy
namespace Go.Proofs.YtcofdlipapnohaaGreatDoor
open Go Go.RowKit
structure CalmTo (v:World) where
 w:World
 h:Calm v w
instance (v:World):Inhabited (CalmTo v):=⟨⟨v,Calm.refl v⟩⟩
theorem calmTo_iff {w w':World}:(∃p:CalmTo w,w'=p.w)↔Calm w w':=
 ⟨fun⟨p,hp⟩=>hp ▸ p.h,fun h=>⟨⟨w',h⟩,rfl⟩⟩
theorem wp_region_calm {P:Program} {id:Nat} {Q:Exit→Act→World→Prop} {a:Act} {w:World} {l:List Oper} (hm:P.follows .mixedOrders=true) (hB:Region.lexB .any l.toArray=true)
  (h:wpQuiet P l.toArray (fun w'=>∃p:CalmTo w,w'=p.w) (fun a'=>∀w',Calm w w'→Q .normal a' w') l a):(Code.region id l.toArray true).wp P Q a w:=by
 refine wp_region_quiet (C:=fun w'=>∃p:CalmTo w,w'=p.w) hm hB ⟨⟨_,(Calm.refl w).drewN 1⟩,rfl⟩ ?_
 have e:(fun a'=>∀w',(∃p:CalmTo w,w'=p.w)→Q .normal a' w')=(fun a'=>∀w',Calm w w'→Q .normal a' w'):=by
  funext a'
  simp only[calmTo_iff]
 rw[e]
 simpa using h
theorem calmOf {P:Program} {f:FuncId} {args:Array Value} {w:World} {p:CalmTo w} {v:Value} (h:Calls P f args p.w fun e w'=>e=.returned v∧Calm p.w w'):Calls P f args p.w fun e w''=>e=.returned v∧∃q:CalmTo w,w''=q.w:=
 h.mono fun _ w'' ⟨he,hw⟩=>⟨he,⟨w'',p.h.trans hw⟩,rfl⟩
theorem calmOfL {P:Program} {f:FuncId} {args:Array Value} {w:World} {p:CalmTo w} {v:Value} (h:Calls P f args p.w fun e w'=>e=.returned v∧p.w=w'):Calls P f args p.w fun e w''=>e=.returned v∧∃q:CalmTo w,w''=q.w:=
 h.mono fun _ w'' ⟨he,hw⟩=>⟨he,p,hw.symm⟩
theorem CalmTo.cell {w:World} {b o:Nat} {v:Value} (h:w.cell? ⟨b,o,none⟩=some v) (hb:b < w.heap.size) (p:CalmTo w):p.w.cell? ⟨b,o,none⟩=some v:=
 (p.h.cell (p:=⟨b,o,none⟩) hb).trans h
theorem Calm.at_ {w w':World} (h:Calm w w') {b o:Nat} {v:Value} (hc:w.cell? ⟨b,o,none⟩=some v) (hb:b < w.heap.size):w'.cell? ⟨b,o,none⟩=some v:=
 (h.cell (p:=⟨b,o,none⟩) hb).trans hc
end Go.Proofs.YtcofdlipapnohaaGreatDoor
namespace Go.Proofs.YtcofdlipapnohaaGreatDoor
open Go Go.RowKit Sy
theorem owns_calm {w w':World} {base:Nat} {e:TypeId} {size n:Nat} {v:Value} {xs:List Value} (h:w.ownsRow base e size v n xs) (hc:Calm w w'):w'.ownsRow base e size v n xs:=by
 obtain⟨h1,h2⟩:=h
 refine⟨h1,?_⟩
 rcases h2 with h2 | ⟨g,cap,cur,hv,hg,hh,r⟩
 ·exact .inl h2
 ·have hlt:g < w.heap.size:=by
   rcases Nat.lt_or_ge g w.heap.size with h | h
   ·exact h
   ·rw[Array.getElem?_eq_none h] at hh;cases hh
  exact .inr ⟨g,cap,cur,hv,hg,(hc.block g hlt).trans hh,r⟩
theorem owns_lt {w:World} {base:Nat} {e:TypeId} {size n:Nat} {v:Value} {xs:List Value} (h:w.ownsRow base e size v n xs) {k:Nat} (hk:v.ownBlock=some k):base≤k∧k < w.heap.size:=by
 rcases h.2 with⟨rfl,_⟩ | ⟨g,cap,cur,rfl,hg,hh,_⟩
 ·simp[Value.ownBlock] at hk
 ·have hlt:g < w.heap.size:=by
   rcases Nat.lt_or_ge g w.heap.size with h | h
   ·exact h
   ·rw[Array.getElem?_eq_none h] at hh;cases hh
  simp[Value.ownBlock] at hk
  subst hk
  exact⟨hg,hlt⟩
theorem owns_below {w w':World} {B:Nat} {e:TypeId} {size n:Nat} {v:Value} {xs:List Value} (h:w.ownsRow B e size v n xs) (hB:B≤w.heap.size) (hg:w.grownBy w' v.ownBlock):Below B w w':=
 (Below.refl B w).grown hg hB (fun k hk=>(owns_lt h hk).1)
def strCells (ls:List Str):List Value:=ls.map fun l=>.string (bs l)
theorem owns_strs {w:World} {base:Nat} {v:Value} {ls:List Str} (h:w.ownsRow base 9 1 v ls.length (strCells ls)) :
  ∃A c,v=.slice A ls.length c∧ls.length≤c∧(0 < ls.length→∃g,A=some ⟨g,0,none⟩∧base≤g∧g < w.heap.size∧∀(j:Nat) (l:Str),ls[j]?=some l→w.cell? ⟨g,j,none⟩=some (.string (bs l))):=by
 rcases h.2 with⟨rfl,h0⟩ | ⟨g,cap,cur,rfl,hg,hh,hcap,hm,hs,ht⟩
 ·exact⟨none,0,by rw[h0],by omega,fun h=>by omega⟩
 ·have hlt:g < w.heap.size:=by
   rcases Nat.lt_or_ge g w.heap.size with h | h
   ·exact h
   ·rw[Array.getElem?_eq_none h] at hh;cases hh
  refine⟨_,cap,rfl,hcap,fun _=>⟨g,rfl,hg,hlt,fun j l hl=>?_⟩⟩
  have:=h.cells (g:=g) rfl j (.string (bs l)) (by simp[strCells,hl])
  rw[Addr.add_lit] at this
  simpa using this
theorem info_strE:(Tryz.prog.info? 9).map (fun i=>(i.zero,i.size,i.bytes))=some (some (.string ByteArray.empty),1,16):=by kernel_rfl
structure OwnS (w0 w:World) (v:Value) (ls:List Str):Prop where
 calm:Calm w0 w
 own:w.ownsRow w0.heap.size 9 1 v ls.length (strCells ls)
theorem OwnS.nil {w0 w:World} (h:Calm w0 w):OwnS w0 w (.slice none 0 0) []:=⟨h,World.ownsRow_nil _ _ _ _⟩
theorem OwnS.to {w0 w w':World} {v:Value} {ls:List Str} (h:OwnS w0 w v ls) (hc:Calm w w'):OwnS w0 w' v ls:=⟨h.calm.trans hc,owns_calm h.own hc⟩
theorem OwnS.strs {w0 w:World} {v:Value} {ls:List Str} (h:OwnS w0 w v ls) (h1:ls.length≤16384) (h2:∀l∈ls,l.length≤16384):∃A c,v=.slice A ls.length c∧ls.length≤c∧StrsR w A ls:=by
 obtain⟨A,c,hv,hc,hat⟩:=owns_strs h.own
 refine⟨A,c,hv,hc,h1,h2,fun h0=>?_⟩
 obtain⟨g,rfl,_,hg,hcells⟩:=hat h0
 exact⟨g,0,rfl,hg,fun k l hl=>by rw[Nat.zero_add];exact hcells k l hl⟩
theorem OwnS.far {w0 w:World} {v:Value} {ls:List Str} (h:OwnS w0 w v ls) {b:Nat} (hb:b < w0.heap.size):some b≠v.ownBlock:=fun e=>by
 have:=(owns_lt h.own e.symm).1
 omega
theorem new_str (v:World) {n:Nat} {l:Str} (h:v.heap.size=n):(v.alloc (.cells #[.string (bs l)] 9)).cell? ⟨n,0,none⟩=some (.string (bs l)):=by
 subst h
 rw[cell_of_row _ v.heap.size 0 _ _ _ (heap_alloc_new v _)]
 rfl
theorem wpList_append_str {ops:Array Oper} {rest:List Oper} {o:Oper} {a:Act} {Q:Exit→Act→World→Prop} {w:World} (hgd:o.guard=none) (s x:Operand)
  (ho:o.op=.call { callee:=.builtin .append,args:=#[s,x],argTypes:=#[33,33] }) (w0:World) (v:Value) (ls:List Str) (hs:a.eval s=v) (hown:OwnS w0 w v ls)
  (b off c:Nat) (hx:a.eval x=.slice (some ⟨b,off,none⟩) 1 c) (l:Str) (hcell:w.cell? ⟨b,off,none⟩=some (.string (bs l))) (hlen:ls.length≤1000000)
  (h:∀v' w',OwnS w0 w' v' (ls++[l])→w.grownBy w' v.ownBlock→wpList Tryz.prog ops Q rest (a.put o.dst v') w'):wpList Tryz.prog ops Q (o :: rest) a w:=by
 obtain⟨i0,hi0,hz0,hz1,hz2⟩:=info_parts info_strE
 refine wpList_append_own w hgd s x 33 ho w0.heap.size 9 i0 _ 1 16 Tryz.underlying33 hi0 hz0 hz1 hz2 rfl (by decide) v ls.length (strCells ls) hs hown.own ⟨b,off,none⟩ 1 c [.string (bs l)] hx rfl (fun j u hj=>?_) (by simp[Value.oneCell']) (by unfold maxLen;omega) (by omega) hown.calm.size ?_
 ·cases j with
  |zero=>
   simp only[List.getElem?_cons_zero,Option.some.injEq] at hj
   subst hj
   simpa[Addr.add_lit] using hcell
  |succ j=>simp at hj
 ·intro v' w' ho' hg _
  refine h v' w' ⟨Below.trans hown.calm (owns_below hown.own hown.calm.size hg),?_⟩ hg
  rw[List.length_append]
  simpa[strCells] using ho'
structure MaxL (w:World):Prop where
 lt:0 < w.heap.size
 at_:∃m:Int,w.cell? ⟨0,0,none⟩=some (.int .i64 m)
theorem MaxL.calm {w w':World} (h:MaxL w) (hc:Calm w w'):MaxL w':=
 ⟨Nat.lt_of_lt_of_le h.lt hc.size,by
  obtain⟨m,hm⟩:=h.at_
  exact⟨m,hc.at_ hm h.lt⟩⟩
def sep47:ByteArray:=⟨#[47]⟩
theorem split_bs (s:Str):Lib.splitB sep47 0 (Lib.countB (bs s) sep47) (bs s)=(slash s).map bs:=by
 have h:=Lib.splitB_data sep47 0 (Lib.countB (bs s) sep47) (bs s)
 have hc:Lib.countB (bs s) sep47=Lib.count s [47]:=by
  show Lib.count (bs s).data.toList sep47.data.toList=_
  rw[bs_toList]
  rfl
 rw[bs_toList,hc] at h
 have hs:sep47.data.toList=[47]:=rfl
 rw[hs,splitK_slash] at h
 rw[hc,←h,List.map_map]
 have:(bs ∘ fun x:ByteArray=>x.data.toList)=id:=by funext x;exact bs_eta x
 rw[this,List.map_id]
theorem split_n (s:Str):Lib.countB (bs s) sep47+1=(slash s).length:=by
 have h:=Lib.splitB_all sep47 (by decide) 0 _ (bs s) rfl
 rw[split_bs,List.length_map] at h
 exact h.symm
theorem split_c (s:Str) (w:World) (hs:s.length≤4000000) (hM:MaxL w) :
  Calls Tryz.prog 242 #[.string (bs s),.string ⟨#[47]⟩] w fun e w'=>e=.returned (.slice (some ⟨w.heap.size,0,none⟩) (slash s).length (slash s).length)∧Calm w w'∧StrsG w' (some ⟨w.heap.size,0,none⟩) (slash s):=by
 obtain⟨m,hm⟩:=hM.at_
 refine (Tryz.strings_Split (bs s) sep47 m w (by rw[bs_size];omega) hm (by decide)).mono fun e w' ⟨he,hw⟩=>?_
 rw[split_bs] at hw
 rw[split_n] at he
 have hl:=slash_len s
 have he':=slash_each s
 refine⟨he,hw ▸ (Calm.refl w).alloc _,by omega,fun l hl=>by have:=he' l hl;omega,fun _=>⟨w.heap.size,0,rfl,by rw[hw];simp,fun k l hk=>?_⟩⟩
 rw[hw,Nat.zero_add,cell_of_row _ w.heap.size k _ _ _ (heap_alloc_new w _)]
 simp[hk]
theorem bs_append (a b:Str):bs (a++b)=bs a++bs b:=by
 apply ByteArray.ext
 apply Array.ext'
 simp[bs]
theorem join_len {K:Nat} (sep:Str):∀ls:List Str,(∀l∈ls,l.length≤K)→(Lib.join ls sep).length≤ls.length * (K+sep.length)
 |[],_=>by simp[Lib.join]
 |[a],h=>by
  have:=h a (by simp)
  simp[Lib.join]
  omega
 |a :: c :: t,h=>by
  have ih:=join_len sep (c :: t) (fun l hl=>h l (by simp[hl]))
  have h1:=h a (by simp)
  have e:Lib.join (a :: c :: t) sep=a++(sep++Lib.join (c :: t) sep):=by simp[Lib.join,List.intercalate]
  rw[e,List.length_append,List.length_append]
  have h2:(a :: c :: t).length * (K+sep.length)=(c :: t).length * (K+sep.length)+(K+sep.length):=by simp[Nat.add_mul]
  rw[h2]
  omega
theorem join47_len {ls:List Str} (hl:ls.length≤20000) (hK:∀l∈ls,l.length≤20000):(Lib.join ls [47]).length≤400020000:=by
 have h1:=join_len [47] ls hK
 have h2:ls.length * (20000+[47].length)≤20000 * 20001:=Nat.mul_le_mul hl (Nat.le_refl _)
 exact Nat.le_trans h1 (Nat.le_trans h2 (by decide))
theorem join47_c (ls:List Str) (Bk c:Nat) (w:World) (hcells:∀(j:Nat) (l:Str),ls[j]?=some l→w.cell? ⟨Bk,j,none⟩=some (.string (bs l))) (hB:Bk < w.heap.size) (hcap:ls.length≤c) (hl:ls.length≤20000) (hK:∀l∈ls,l.length≤20000) :
  Calls Tryz.prog 221 #[.slice (some ⟨Bk,0,none⟩) ls.length c,.string ⟨#[47]⟩] w fun e w'=>e=.returned (.string (bs (Lib.join ls [47])))∧Calm w w':=by
 have hm:(ls.map bs).map (·.data.toList)=ls:=by
  rw[List.map_map]
  have:((fun s:ByteArray=>s.data.toList) ∘ bs)=id:=by funext l;exact bs_toList l
  rw[this,List.map_id]
 have h:=Tryz.strings_Join Bk 0 c (ls.map bs) ⟨#[47]⟩ w (fun j x hx=>by
   rw[List.getElem?_map] at hx
   obtain⟨l,h1,rfl⟩:=Option.map_eq_some_iff.1 hx
   rw[Nat.zero_add]
   exact hcells j l h1) hB (by rw[List.length_map];omega) (by rw[List.length_map];exact hcap) (by
   rw[hm]
   have h1:=join_len [47] ls hK
   have h2:ls.length * (20000+[47].length)≤20000 * 20001:=Nat.mul_le_mul hl (Nat.le_refl _)
   exact Nat.le_trans h1 (Nat.le_trans h2 (by decide)))
 rw[hm,List.length_map] at h
 exact h
theorem join_off_c (ls:List Str) (Bk off c:Nat) (w:World) (hcells:∀(j:Nat) (l:Str),ls[j]?=some l→w.cell? ⟨Bk,off+j,none⟩=some (.string (bs l))) (hB:Bk < w.heap.size) (hcap:ls.length≤c) (hl:ls.length≤20000) (hK:∀l∈ls,l.length≤20000) :
  Calls Tryz.prog 221 #[.slice (some ⟨Bk,off,none⟩) ls.length c,.string ⟨#[47]⟩] w fun e w'=>e=.returned (.string (bs (Lib.join ls [47])))∧Calm w w':=by
 have hm:(ls.map bs).map (·.data.toList)=ls:=by
  rw[List.map_map]
  have:((fun s:ByteArray=>s.data.toList) ∘ bs)=id:=by funext l;exact bs_toList l
  rw[this,List.map_id]
 have h:=Tryz.strings_Join Bk off c (ls.map bs) ⟨#[47]⟩ w (fun j x hx=>by
   rw[List.getElem?_map] at hx
   obtain⟨l,h1,rfl⟩:=Option.map_eq_some_iff.1 hx
   exact hcells j l h1) hB (by rw[List.length_map];omega) (by rw[List.length_map];exact hcap) (by
   rw[hm]
   have h1:=join_len [47] ls hK
   have h2:ls.length * (20000+[47].length)≤20000 * 20001:=Nat.mul_le_mul hl (Nat.le_refl _)
   exact Nat.le_trans h1 (Nat.le_trans h2 (by decide)))
 rw[hm,List.length_map] at h
 exact h
theorem results_cell1 {fn:Func} {p:Tmp} {ty:TypeId} (h:fn.results=#[.cell p ty]) (tmps:Array Value) (P:Program) (w:World) :
  (results fn tmps).run P w=((asAddr (tmps.getD p undef)).run P w).andThen fun a w₁=>(loadVar ty a).run P w₁:=by
 simp only[results,h]
 simp[Sem.run_bind,Result.andThen]
structure NewS (w:World) (B:Nat) (A:Option Addr) (c:Nat) (ls:List Str):Prop where
 u:StrsU w A ls
 room:ls.length≤c
 cap:c≤9223372036854775807
 new:∀ad,A=some ad→B≤ad.block
 row:∀ad,A=some ad→∃cs,w.heap[ad.block]?=some (.cells cs 9 (0,0))
theorem heap_lt {w:World} {b:Nat} {o:Obj} (h:w.heap[b]?=some o):b < w.heap.size:=by
 rcases Nat.lt_or_ge b w.heap.size with h' | h'
 ·exact h'
 ·rw[Array.getElem?_eq_none h'] at h
  cases h
theorem NewS.calm {w w':World} {B:Nat} {A:Option Addr} {c:Nat} {ls:List Str} (h:NewS w B A c ls) (hc:Calm w w'):NewS w' B A c ls:=
 ⟨h.u.calm hc,h.room,h.cap,h.new,fun ad hA=>by
  obtain⟨cs,hh⟩:=h.row ad hA
  exact⟨cs,(hc.block _ (heap_lt hh)).trans hh⟩⟩
theorem NewS.nil (w:World) (B:Nat):NewS w B none 0 []:=⟨⟨by simp,(fun l hl=>by cases hl),(fun h=>by simp at h)⟩,Nat.le_refl _,by omega,(fun ad h=>by cases h),(fun ad h=>by cases h)⟩
theorem NewS.grown {w w':World} {B:Nat} {A:Option Addr} {c:Nat} {ls:List Str} (h:NewS w B A c ls) {B0 n size:Nat} {v:Value} {T:TypeId} {xs:List Value} (hT:9≠T) (hown:w.ownsRow B0 T size v n xs) (hg:w.grownBy w' v.ownBlock):NewS w' B A c ls:=by
 have hne:∀ad,A=some ad→some ad.block≠v.ownBlock:=fun ad hA e=>by
  obtain⟨cs,hh⟩:=h.row ad hA
  rcases hown.2 with⟨rfl,_⟩ | ⟨g,cap,cur,rfl,_,hgh,_⟩
  ·simp[Value.ownBlock] at e
  ·have e2:ad.block=g:=by simpa[Value.ownBlock] using e
   rw[e2,hgh] at hh
   injection hh with hh
   injection hh with _ ht
   exact hT ht.symm
 refine⟨⟨h.u.len,h.u.each,fun h0=>?_⟩,h.room,h.cap,h.new,fun ad hA=>?_⟩
 ·obtain⟨b,o,hA,hb,hk⟩:=h.u.at_ h0
  exact⟨b,o,hA,Nat.lt_of_lt_of_le hb hg.size,fun k l hl=>hg.cell (hk k l hl) (show some b≠v.ownBlock from hne _ hA)⟩
 ·obtain⟨cs,hh⟩:=h.row ad hA
  exact⟨cs,(hg.block _ (heap_lt hh) (hne ad hA)).trans hh⟩
theorem NewS.set {w:World} {B:Nat} {A:Option Addr} {c:Nat} {ls:List Str} (h:NewS w B A c ls) {p:Addr} (u:Value) (hp:p.block < B):NewS (w.setCell p u) B A c ls:=by
 refine⟨⟨h.u.len,h.u.each,fun h0=>?_⟩,h.room,h.cap,h.new,fun ad hA=>?_⟩
 ·obtain⟨b,o,hA,hb,hk⟩:=h.u.at_ h0
  refine⟨b,o,hA,by simpa using hb,fun k l hl=>(World.cell?_setCell_other _ _ _ _ ?_).trans (hk k l hl)⟩
  intro e
  have:=h.new _ hA
  have e2:=congrArg Addr.block e
  simp at e2
  simp at this
  omega
 ·obtain⟨cs,hh⟩:=h.row ad hA
  exact⟨cs,(Deep.blk_setCell_other _ _ _ _ (by have:=h.new ad hA;omega)).trans hh⟩
theorem NewS.mono {w:World} {B B':Nat} {A:Option Addr} {c:Nat} {ls:List Str} (h:NewS w B A c ls) (hB:B'≤B):NewS w B' A c ls:=⟨h.u,h.room,h.cap,fun ad hA=>Nat.le_trans hB (h.new ad hA),h.row⟩
def CloneEnd (ls:List Str) (B:Nat) (e:Ending) (w':World):Prop:=∃A c,e=.returned (.slice A ls.length c)∧NewS w' B A c ls
theorem own_newS {w:World} {B:Nat} {v:Value} {ls:List Str} (h:w.ownsRow B 9 1 v ls.length (strCells ls)) (h1:ls.length≤1048576) (h2:∀l∈ls,l.length≤1048576):∃A c,v=.slice A ls.length c∧NewS w B A c ls:=by
 rcases h.2 with⟨rfl,h0⟩ | ⟨g,cap,cur,rfl,hg,hh,hcap,hm,hs,ht⟩
 ·have:ls=[]:=List.eq_nil_of_length_eq_zero h0
  subst this
  exact⟨none,0,rfl,NewS.nil w B⟩
 ·have hlt:g < w.heap.size:=by
   rcases Nat.lt_or_ge g w.heap.size with h | h
   ·exact h
   ·rw[Array.getElem?_eq_none h] at hh;cases hh
  refine⟨_,cap,rfl,⟨h1,h2,fun _=>⟨g,0,rfl,hlt,fun j l hl=>?_⟩⟩,hcap,by unfold maxLen at hm;omega,fun ad hA=>by obtain rfl:=Option.some.inj hA;exact hg,fun ad hA=>by obtain rfl:=Option.some.inj hA;exact⟨cur,hh⟩⟩
  have:=h.cells (g:=g) rfl j (.string (bs l)) (by simp[strCells,hl])
  simpa[Addr.add_lit] using this
theorem clone_c (ls:List Str) (A:Option Addr) (c:Nat) (w:World) (hr:StrsU w A ls) :
  Calls Tryz.prog 118 #[.slice A ls.length c] w fun e w'=>CloneEnd ls w.heap.size e w'∧Calm w w':=by
 cases A with
 |none=>
  have h0:ls=[]:=by
   cases ls with
   |nil=>rfl
   |cons y t=>
    obtain⟨b,o',hA,_⟩:=hr.at_ (by simp)
    cases hA
  subst h0
  exact (Tryz.slices_Clone_string_nil 0 c w).mono fun e w' ⟨h1,h2⟩=>⟨⟨none,0,h1,NewS.nil _ _⟩,by rw[h2];exact Calm.refl w⟩
 |some ad=>
  by_cases hl:ls=[]
  ·subst hl
   exact (Tryz.slices_Clone_string_zero ad c w).mono fun e w' ⟨v',h1,h2,_,h3⟩=>by
    obtain⟨A',c',h4,h5⟩:=own_newS (ls:=[]) h2 (by simp) (fun l hl=>by cases hl)
    exact⟨⟨A',c',by rw[h1,h4],h5⟩,h3⟩
  ·obtain⟨b,o,hA,hb,hk⟩:=hr.at_ (List.length_pos_iff.2 hl)
   obtain rfl:=Option.some.inj hA
   have hlen:=hr.len
   exact (Tryz.slices_Clone_string b o ls.length c (ls.map bs) w (by simp) (by omega) (fun j hj=>by
    rw[List.length_map] at hj
    rw[hk j _ (List.getElem?_eq_getElem hj)]
    simp[List.getD_eq_getElem?_getD,hj])).mono fun e w' ⟨v',h1,h2,_,h3⟩=>by
     have e1:((ls.map bs).take ls.length).map Value.string=strCells ls:=by
      rw[List.take_of_length_le (by simp),List.map_map]
      rfl
     rw[e1] at h2
     obtain⟨A',c',h4,h5⟩:=own_newS h2 hr.len hr.each
     exact⟨⟨A',c',by rw[h1,h4],h5⟩,h3⟩
end Go.Proofs.YtcofdlipapnohaaGreatDoor
