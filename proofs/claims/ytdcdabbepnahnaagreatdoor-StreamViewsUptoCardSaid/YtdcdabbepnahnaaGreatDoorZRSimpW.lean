/- The reference's way to simplify, as lists: the sort by exchange, the keeping. No program in sight. -/
import Derived.BigRegion
import Derived.Test.YtdcdabbepnahnaaGreatDoorZRMeetF
import Derived.Test.YtdcdabbepnahnaaGreatDoorZRowG
import Derived.Test.YtdcdabbepnahnaaGreatDoorZRed3W
import Derived.Test.YtdcdabbepnahnaaGreatDoorZRefW
import Derived.Test.YtdcdabbepnahnaaGreatDoorZSimpW
set_option linter.unusedVariables false
set_option linter.unusedSimpArgs false
namespace Go.Proofs.YtdcdabbepnahnaaGreatDoor
open Go Go.RowKit Sy
theorem rmeet_yes (p q m:Pat) (A A':Option Addr) (c c':Nat) (w:World) (hp:PatA w A c p) (hq:PatA w A' c' q) (ep:patErr p=0) (eq:patErr q=0) (hm:meetP p q=some m) :
  Calls Tryz.prog 97 #[.agg #[.slice A p.parts.length c,.bool p.rest],.agg #[.slice A' q.parts.length c',.bool q.rest]] w fun e w'=>(∃A2 c2,e=.returned (.tuple #[.agg #[.slice A2 m.parts.length c2,.bool m.rest],.bool true])∧SmallN w' w.heap.size ⟨A2,c2,m⟩)∧Calm w w':=by
 rw[meetP,if_pos ⟨ep,eq⟩] at hm
 refine (rmeet_c p q A A' c c' w hp hq ep eq).mono fun e w' ⟨h1,h2⟩=>⟨?_,h2⟩
 rcases h1 with⟨m',A2,c2,h3,h4,h5⟩ | ⟨h3,_⟩
 ·rw[hm] at h3
  obtain rfl:m=m':=Option.some.inj h3
  have hok:=(patErr_iff.1 (meetL_good ep eq hm)).2.2.1
  refine⟨A2,c2,h4,h5,by show m.parts.length≤16384;omega,fun x hx=>?_⟩
  obtain⟨rfl,_,_⟩:=meetL_some hm
  obtain⟨j,hj,rfl⟩:=List.mem_map.1 hx
  rcases mPart_or (pAt p j) (pAt q j) with e | e <;> rw[e]
  ·exact pAt_lenM hp.r.each j
  ·exact pAt_lenM hq.r.each j
 ·rw[hm] at h3
  cases h3
theorem rmeet_no (p q:Pat) (A A':Option Addr) (c c':Nat) (w:World) (hp:PatA w A c p) (hq:PatA w A' c' q) (ep:patErr p=0) (eq:patErr q=0) (hm:meetP p q=none) :
  Calls Tryz.prog 97 #[.agg #[.slice A p.parts.length c,.bool p.rest],.agg #[.slice A' q.parts.length c',.bool q.rest]] w fun e w'=>e=.returned (.tuple #[.agg #[.slice none 0 0,.bool false],.bool false])∧Calm w w':=by
 rw[meetP,if_pos ⟨ep,eq⟩] at hm
 refine (rmeet_c p q A A' c c' w hp hq ep eq).mono fun e w' ⟨h1,h2⟩=>⟨?_,h2⟩
 rcases h1 with⟨m',A2,c2,h3,h4,h5⟩ | ⟨_,h4⟩
 ·rw[hm] at h3
  cases h3
 ·exact h4
theorem less_cmp:∀x y:Str,Op.bytesLess x y=decide (Lib.compareBytes x y < 0)
 |[],[]=>by simp[Op.bytesLess,Lib.compareBytes]
 |a :: x,[]=>by simp[Op.bytesLess,Lib.compareBytes]
 |[],b :: y=>by simp[Op.bytesLess,Lib.compareBytes]
 |a :: x,b :: y=>by
  have ih:=less_cmp x y
  unfold Op.bytesLess Lib.compareBytes
  by_cases h1:a < b
  ·simp[h1]
  ·by_cases h2:b < a
   ·have hne:a≠b:=fun e=>by subst e;exact UInt8.lt_irrefl a h2
    simp[h1,h2,hne]
   ·have:a=b:=UInt8.le_antisymm (UInt8.not_lt.1 h2) (UInt8.not_lt.1 h1)
    subst this
    simp[h1,ih]
def Srt (l:List NewP) (i k:Nat):Prop:=∀(a b:Nat) (x y:NewP),a < b→b≤i→b≠k→l[a]?=some x→l[b]?=some y→leT x.p y.p
def SrtTo (l:List NewP) (i:Nat):Prop:=∀(a b:Nat) (x y:NewP),a < b→b < i→l[a]?=some x→l[b]?=some y→leT x.p y.p
theorem srt_start {l:List NewP} {i:Nat} (h:SrtTo l i):Srt l i i:=fun a b x y hab hb hne hx hy=>h a b x y hab (by omega) hx hy
theorem srt_zero {l:List NewP} {i:Nat} (h:Srt l i 0):SrtTo l (i+1):=fun a b x y hab hb hx hy=>h a b x y hab (by omega) (by omega) hx hy
theorem leT_of_not {p q:Pat} (h:Op.bytesLess (patText q) (patText p)=false):leT p q:=by
 rw[less_cmp,decide_eq_false_iff_not] at h
 unfold leT
 have:=cmp_neg (patText p) (patText q)
 omega
theorem leT_of_lt {p q:Pat} (h:Op.bytesLess (patText p) (patText q)=true):leT p q:=by
 rw[less_cmp,decide_eq_true_eq] at h
 unfold leT
 omega
theorem srt_done {l:List NewP} {i k:Nat} {x y:NewP} (h:Srt l i (k+1)) (hki:k+1≤i) (hx:l[k]?=some x) (hy:l[k+1]?=some y) (hn:Op.bytesLess (patText y.p) (patText x.p)=false):SrtTo l (i+1):=by
 intro a b u v hab hb hu hv
 by_cases e:b=k+1
 ·subst e
  rw[hy] at hv
  obtain rfl:=Option.some.inj hv
  have hxy:=leT_of_not hn
  by_cases e2:a=k
  ·subst e2
   rw[hx] at hu
   obtain rfl:=Option.some.inj hu
   exact hxy
  ·exact leT_trans (h a k u x (by omega) (by omega) (by omega) hu hx) hxy
 ·exact h a b u v hab (by omega) e hu hv
theorem srt_step {l:List NewP} {i k:Nat} {x y:NewP} (h:Srt l i (k+1)) (hki:k+1≤i) (hil:i < l.length) (hx:l[k]?=some x) (hy:l[k+1]?=some y) (hlt:Op.bytesLess (patText y.p) (patText x.p)=true):Srt ((l.set (k+1) x).set k y) i k:=by
 have hyx:=leT_of_lt hlt
 have e0:((l.set (k+1) x).set k y)[k]?=some y:=List.getElem?_set_self (by rw[List.length_set];omega)
 have e1:((l.set (k+1) x).set k y)[k+1]?=some x:=by
  rw[List.getElem?_set_ne (by omega)]
  exact List.getElem?_set_self (by omega)
 have e2:∀j,j≠k→j≠k+1→((l.set (k+1) x).set k y)[j]?=l[j]?:=fun j h1 h2=>by
  rw[List.getElem?_set_ne (Ne.symm h1),List.getElem?_set_ne (Ne.symm h2)]
 intro a b u v hab hb hne hu hv
 by_cases hb1:b=k+1
 ·subst hb1
  rw[e1] at hv
  obtain rfl:=Option.some.inj hv
  by_cases ha:a=k
  ·subst ha
   rw[e0] at hu
   obtain rfl:=Option.some.inj hu
   exact hyx
  ·rw[e2 a ha (by omega)] at hu
   exact h a k u x (by omega) (by omega) (by omega) hu hx
 ·rw[e2 b hne hb1] at hv
  by_cases ha:a=k
  ·subst ha
   rw[e0] at hu
   obtain rfl:=Option.some.inj hu
   exact h (a+1) b y v (by omega) hb hb1 hy hv
  ·by_cases ha1:a=k+1
   ·subst ha1
    rw[e1] at hu
    obtain rfl:=Option.some.inj hu
    exact h k b x v (by omega) hb hb1 hx hv
   ·rw[e2 a ha ha1] at hu
    exact h a b u v hab hb hb1 hu hv
theorem swap_mem {l:List NewP} {k:Nat} {x y:NewP} (hx:l[k]?=some x) (hy:l[k+1]?=some y) (z:NewP):z∈(l.set (k+1) x).set k y↔z∈l:=by
 obtain⟨hkl,hx2⟩:=List.getElem?_eq_some_iff.1 hx
 obtain⟨hkl1,hy2⟩:=List.getElem?_eq_some_iff.1 hy
 have e0:((l.set (k+1) x).set k y)[k]?=some y:=List.getElem?_set_self (by rw[List.length_set];omega)
 have e1:((l.set (k+1) x).set k y)[k+1]?=some x:=by
  rw[List.getElem?_set_ne (by omega)]
  exact List.getElem?_set_self (by omega)
 have e2:∀j,j≠k→j≠k+1→((l.set (k+1) x).set k y)[j]?=l[j]?:=fun j h1 h2=>by
  rw[List.getElem?_set_ne (Ne.symm h1),List.getElem?_set_ne (Ne.symm h2)]
 constructor
 ·intro h
  obtain⟨j,hj⟩:=List.mem_iff_getElem?.1 h
  by_cases h1:j=k
  ·subst h1
   rw[e0] at hj
   obtain rfl:=Option.some.inj hj
   exact List.mem_of_getElem? hy
  ·by_cases h2:j=k+1
   ·subst h2
    rw[e1] at hj
    obtain rfl:=Option.some.inj hj
    exact List.mem_of_getElem? hx
   ·rw[e2 j h1 h2] at hj
    exact List.mem_of_getElem? hj
 ·intro h
  obtain⟨j,hj⟩:=List.mem_iff_getElem?.1 h
  by_cases h1:j=k
  ·subst h1
   rw[hx] at hj
   obtain rfl:=Option.some.inj hj
   exact List.mem_of_getElem? e1
  ·by_cases h2:j=k+1
   ·subst h2
    rw[hy] at hj
    obtain rfl:=Option.some.inj hj
    exact List.mem_of_getElem? e0
   ·rw[←e2 j h1 h2] at hj
    exact List.mem_of_getElem? hj
theorem srtTo_pairwise {l:List NewP} (h:SrtTo l l.length):(l.map (·.p)).Pairwise leT:=by
 rw[List.pairwise_map,List.pairwise_iff_getElem]
 intro i j hi hj hij
 exact h i j _ _ hij hj (List.getElem?_eq_getElem hi) (List.getElem?_eq_getElem hj)
/-! ### the keeping -/
def outR (i j:Nat) (x y:Pat):Bool:=decide (i≠j) && insideP x y && (decide (j < i) || decide (x≠y))
def keepTo (l:List NewP) (i:Nat) (x:Pat) (j:Nat):Bool:=(List.range j).all fun t=>match l[t]? with
 |some y=>!outR i t x y.p
 |none=>true
theorem keepTo_zero (l:List NewP) (i:Nat) (x:Pat):keepTo l i x 0=true:=rfl
theorem keepTo_succ {l:List NewP} {i j:Nat} {x:Pat} {y:NewP} (hy:l[j]?=some y):keepTo l i x (j+1)=(keepTo l i x j && !outR i j x y.p):=by
 unfold keepTo
 rw[List.range_succ,List.all_append,List.all_cons,List.all_nil,Bool.and_true,hy]
theorem keepTo_end {l:List NewP} {i:Nat} {x:NewP} (hx:l[i]?=some x):keepTo l i x.p l.length=keepR (l.map (·.p)) i:=by
 unfold keepTo keepR
 rw[List.length_map]
 rw[Bool.eq_iff_iff,List.all_eq_true,List.all_eq_true]
 refine forall_congr' fun j=>forall_congr' fun _=>?_
 rw[List.getElem?_map,List.getElem?_map,hx]
 rcases l[j]? with _ | y
 ·simp
 ·simp only[Option.map_some]
  unfold outR
  rfl
def keptR (l:List NewP) (n:Nat):List NewP:=(List.range n).filterMap fun i=>if keepR (l.map (·.p)) i then l[i]? else none
theorem keptR_succ {l:List NewP} {i:Nat} {x:NewP} (hx:l[i]?=some x):keptR l (i+1)=keptR l i++(if keepR (l.map (·.p)) i then [x] else []):=by
 unfold keptR
 rw[List.range_succ,List.filterMap_append]
 congr 1
 by_cases h:keepR (l.map (·.p)) i=true
 ·simp[h,hx]
 ·simp[h]
theorem keptR_map (l:List NewP) (n:Nat):(keptR l n).map (·.p)=refKeep (l.map (·.p)) n:=by
 unfold keptR refKeep
 rw[List.map_filterMap]
 congr 1
 funext i
 split
 ·rw[List.getElem?_map]
 ·rfl
theorem keptR_sub {l:List NewP} {n:Nat}:∀x∈keptR l n,x∈l:=fun x hx=>by
 obtain⟨i,_,hi⟩:=List.mem_filterMap.1 hx
 split at hi
 ·exact List.mem_of_getElem? hi
 ·cases hi
theorem keptR_len (l:List NewP) (n:Nat):(keptR l n).length≤n:=by
 have:=List.length_filterMap_le (fun i=>if keepR (l.map (·.p)) i then l[i]? else none) (List.range n)
 rw[List.length_range] at this
 exact this
structure MetTo (w1 wr:World) (u:Value) (b:Pat) (ps:List Pat) (k:Nat) (l:List NewP):Prop where
 own:OwnX encP 2 51 w1 wr u l
 is:l.map (·.p)=meetsL b (ps.take k)
 each:∀x∈l,SmallN wr w1.heap.size x
theorem MetTo.len {w1 wr:World} {u:Value} {b:Pat} {ps:List Pat} {k:Nat} {l:List NewP} (h:MetTo w1 wr u b ps k l):l.length≤ps.length:=by
 have h1:=congrArg List.length h.is
 rw[List.length_map] at h1
 have h2:=meetsL_len b (ps.take k)
 rw[List.length_take] at h2
 omega
theorem MetTo.miss {w1 wr w2:World} {u:Value} {b:Pat} {ps:List Pat} {k:Nat} {l:List NewP} {p:Pat} (h:MetTo w1 wr u b ps k l) (hp:ps[k]?=some p) (hm:meetP b p=none) (hc:Calm wr w2):MetTo w1 w2 u b ps (k+1) l:=
 ⟨h.own.to hc,by rw[meetsL_take hp,hm,h.is];simp,fun x hx=>(h.each x hx).calm hc⟩
theorem MetTo.hit {w1 wr w2 w3:World} {u v:Value} {b:Pat} {ps:List Pat} {k:Nat} {l:List NewP} {p:Pat} {y:NewP} (h:MetTo w1 wr u b ps k l) (hp:ps[k]?=some p) (hm:meetP b p=some y.p) (hc:Calm wr w2) (hown:OwnX encP 2 51 w1 w3 v (l++[y])) (hy:SmallN w2 w1.heap.size y) (hg:w2.grownBy w3 u.ownBlock):MetTo w1 w3 v b ps (k+1) (l++[y]):=by
 refine⟨hown,by rw[meetsL_take hp,hm,List.map_append,h.is];rfl,fun x hx=>?_⟩
 rcases List.mem_append.1 hx with hx | hx
 ·exact ((h.each x hx).calm hc).own (by decide) (h.own.to hc).own hg
 ·rw[List.mem_singleton.1 hx]
  exact hy.own (by decide) (h.own.to hc).own hg
structure SortI (w1 wr:World) (AH:Option Addr) (m:Nat) (l:List NewP) (b:Pat) (ps:List Pat):Prop where
 calm:Calm w1 wr
 len:l.length=m
 row:0 < m→∃g,AH=some ⟨g,0,none⟩∧w1.heap.size≤g∧RowX encP 2 51 wr g 0 l
 each:∀x∈l,SmallN wr w1.heap.size x
 mem:∀p,p∈l.map (·.p)↔p∈meetsL b ps
theorem MetTo.sort {w1 wr:World} {u:Value} {b:Pat} {ps:List Pat} {k:Nat} {l:List NewP} (h:MetTo w1 wr u b ps k l) (hk:ps.length≤k):∃AH c,u=.slice AH l.length c∧SortI w1 wr AH l.length l b ps:=by
 have hmem:∀p,p∈l.map (·.p)↔p∈meetsL b ps:=fun p=>by rw[h.is,List.take_of_length_le hk]
 rcases h.own.row encP_len with⟨rfl,h0⟩ | ⟨g,c,rfl,h1,h2,h3,hr⟩
 ·subst h0
  exact⟨none,0,rfl,h.own.calm,rfl,fun h=>absurd h (Nat.lt_irrefl _),h.each,hmem⟩
 ·exact⟨_,c,rfl,h.own.calm,rfl,fun _=>⟨g,rfl,h3,hr⟩,h.each,hmem⟩
theorem SortI.to {w1 wr w2:World} {AH:Option Addr} {m:Nat} {l:List NewP} {b:Pat} {ps:List Pat} (h:SortI w1 wr AH m l b ps) (hc:Calm wr w2):SortI w1 w2 AH m l b ps:=
 ⟨h.calm.trans hc,h.len,fun h0=>by obtain⟨g,h1,h2,h3⟩:=h.row h0;exact⟨g,h1,h2,h3.calm hc⟩,fun x hx=>(h.each x hx).calm hc,h.mem⟩
theorem SortI.swap {w1 wr:World} {g m:Nat} {l:List NewP} {b:Pat} {ps:List Pat} {k:Nat} {x y:NewP} (h:SortI w1 wr (some ⟨g,0,none⟩) m l b ps) (hx:l[k]?=some x) (hy:l[k+1]?=some y) :
  SortI w1 ((((wr.setCell ⟨g,(k+1) * 2,none⟩ (.slice x.A x.p.parts.length x.c)).setCell ⟨g,(k+1) * 2+1,none⟩ (.bool x.p.rest)).setCell ⟨g,k * 2,none⟩ (.slice y.A y.p.parts.length y.c)).setCell ⟨g,k * 2+1,none⟩ (.bool y.p.rest)) (some ⟨g,0,none⟩) m ((l.set (k+1) x).set k y) b ps:=by
 obtain⟨hk1,_⟩:=List.getElem?_eq_some_iff.1 hy
 obtain⟨g',hA,hge,hr⟩:=h.row (by rw[←h.len];omega)
 obtain rfl:g=g':=by injection hA with hA;injection hA
 have h1:=hr.put encP_len hk1 x
 have g1:=grown_setCells (w:=wr) g (0+(k+1) * 2) (encP x)
 have h2:=h1.put encP_len (k:=k) (by rw[List.length_set];omega) y
 have g2:=grown_setCells (w:=wr.setCells g (0+(k+1) * 2) (encP x)) g (0+k * 2) (encP y)
 have e:((((wr.setCell ⟨g,(k+1) * 2,none⟩ (.slice x.A x.p.parts.length x.c)).setCell ⟨g,(k+1) * 2+1,none⟩ (.bool x.p.rest)).setCell ⟨g,k * 2,none⟩ (.slice y.A y.p.parts.length y.c)).setCell ⟨g,k * 2+1,none⟩ (.bool y.p.rest))=(wr.setCells g (0+(k+1) * 2) (encP x)).setCells g (0+k * 2) (encP y):=by
  rw[Nat.zero_add,Nat.zero_add]
  rfl
 rw[e]
 have hmem:=swap_mem hx hy
 refine⟨grown_calm (grown_calm h.calm g1 hge) g2 hge,by rw[List.length_set,List.length_set];exact h.len,fun _=>⟨g,rfl,hge,h2⟩,fun z hz=>?_,fun p=>?_⟩
 ·exact ((h.each z ((hmem z).1 hz)).row hr.kind (by decide) g1).row h1.kind (by decide) g2
 ·rw[←h.mem p,List.mem_map,List.mem_map]
  exact⟨fun⟨z,hz,e⟩=>⟨z,(hmem z).1 hz,e⟩,fun⟨z,hz,e⟩=>⟨z,(hmem z).2 hz,e⟩⟩
theorem RowX.at2 {w:World} {g:Nat} {T:TypeId} {l:List NewP} (h:RowX encP 2 T w g 0 l) {k:Nat} {x:NewP} (hk:l[k]?=some x) :
  w.cell? ⟨g,k * 2,none⟩=some (.slice x.A x.p.parts.length x.c)∧w.cell? ⟨g,k * 2+1,none⟩=some (.bool x.p.rest):=by
 have h0:=h.cell k x hk 0 _ rfl
 have h1:=h.cell k x hk 1 _ rfl
 rw[Nat.zero_add] at h0 h1
 exact⟨h0,h1⟩
theorem read_new {w:World} {n:Nat} (y:NewP) (h:w.heap.size=n):ReadX encP 2 (w.alloc (.cells #[.slice y.A y.p.parts.length y.c,.bool y.p.rest] 51)) (some ⟨n,0,none⟩) [y]:=fun _=>by
 refine⟨n,0,rfl,by rw[←h];simp[go_sem],fun k x hk i u hu=>?_⟩
 have h0:k=0:=by
  have:=(List.getElem?_eq_some_iff.1 hk).1
  simp at this
  exact this
 subst h0
 obtain rfl:y=x:=by simpa using hk
 have:=new_p y h i u hu
 simpa using this
def RSEnd (A:Option Addr) (c:Nat) (b:Pat) (hs:List Pat) (B:Nat) (e:Ending) (w':World):Prop:=∃HA hc,e=.returned (.agg #[.slice A b.parts.length c,.bool b.rest,.slice HA hs.length hc])∧PatsN w' B HA hc hs
theorem rs_done {w1 wS wr:World} {B m n c:Nat} {AH A:Option Addr} {re:Bool} {hv:Value} {l:List NewP} {b:Pat} {ps:List Pat} (hG:GTo wS wr wS.heap.size A n c re hv (keptR l m)) (HS:SortI w1 wS AH m l b ps) (ho:SrtTo l m) (hbox:BoxG w1 B A n c re) (hn:b.parts.length=n) (hre:b.rest=re) (u0 u1 u2:Value) :
  RSEnd A c b (redL b ps) B (.returned (.agg #[.slice A n c,.bool re,hv])) (((wr.setCell ⟨B+1,0,none⟩ u0).setCell ⟨B+1,1,none⟩ u1).setCell ⟨B+1,2,none⟩ u2):=by
 have hmap:(keptR l m).map (·.p)=redL b ps:=by
  rw[keptR_map]
  have hl:(l.map (·.p)).length=m:=by rw[List.length_map];exact HS.len
  rw[←hl]
  exact redL_ref HS.mem (srtTo_pairwise (by rw[HS.len];exact ho))
 have hlen:(keptR l m).length=(redL b ps).length:=by rw[←hmap,List.length_map]
 have hw1:B+2≤w1.heap.size:=hbox.size
 have hwS:w1.heap.size≤wS.heap.size:=HS.calm.size
 have hSr:=hG.own.calm
 have heach:∀x∈keptR l m,SmallN (((wr.setCell ⟨B+1,0,none⟩ u0).setCell ⟨B+1,1,none⟩ u1).setCell ⟨B+1,2,none⟩ u2) B x:=fun x hx=>
  (((((HS.each x (keptR_sub x hx)).calm hSr).set (p:=⟨B+1,0,none⟩) u0 (by show B+1 < _;omega)).set (p:=⟨B+1,1,none⟩) u1 (by show B+1 < _;omega)).set (p:=⟨B+1,2,none⟩) u2 (by show B+1 < _;omega)).mono (by omega)
 rcases hG.own.row encP_len with⟨rfl,h0⟩ | ⟨g,hc,rfl,hlc,hcc,hgg,hrow⟩
 ·have hr0:redL b ps=[]:=by rw[←hmap,h0];rfl
  refine⟨none,0,by rw[hn,hre,hr0];rfl,⟨[],by rw[hr0];rfl,.inl ⟨rfl,hr0⟩,fun x hx=>by cases hx⟩,by rw[hr0];exact Nat.le_refl _,by omega⟩
 ·have hgB:g≠B+1:=by omega
  refine⟨some ⟨g,0,none⟩,hc,by rw[hn,hre,←hlen],⟨keptR l m,hmap,.inr ⟨g,rfl,by omega,?_⟩,heach⟩,by rw[←hlen];exact hlc,hcc⟩
  refine hrow.of_block ?_
  rw[Deep.blk_setCell_other _ _ _ _ hgB,Deep.blk_setCell_other _ _ _ _ hgB,Deep.blk_setCell_other _ _ _ _ hgB]
set_option maxRecDepth 100000 in
set_option maxHeartbeats 16000000 in
theorem rsimp_c (b:Pat) (ps:List Pat) (A:Option Addr) (c:Nat) (PA:Option Addr) (N pc:Nat) (w:World) (hb:PatA w A c b) (hps:PatsR w PA ps) (hN:ps.length=N) (gb:patErr b=0) (gp:∀p∈ps,patErr p=0) :
  Calls Tryz.prog 59 #[.agg #[.slice A b.parts.length c,.bool b.rest],.slice PA N pc] w fun e w'=>RSEnd A c b (redL b ps) w.heap.size e w'∧Calm w w':=by
 obtain⟨n,hn⟩:∃n,b.parts.length=n:=⟨_,rfl⟩
 obtain⟨re,hre⟩:∃re,b.rest=re:=⟨_,rfl⟩
 have hNl:=hps.len
 rw[hN] at hNl
 obtain⟨w1,hw1⟩:∃w1,w1=(w.alloc (.cells #[.slice A n c,.bool re] 51)).alloc (.cells #[.slice none 0 0,.bool false,.slice none 0 0] 67):=⟨_,rfl⟩
 have hc1:Calm w w1:=by rw[hw1];exact ((Calm.refl w).alloc _).alloc _
 have hbox:BoxG w1 w.heap.size A n c re:=by
  rw[hw1]
  exact⟨by simp,by simp[go_sem],by simp[go_sem],by simp[go_sem],by simp[go_sem],by simp[go_sem],fun o=>by simp[go_sem]⟩
 have HW:=Lib.hid hw1
 have HC:=Lib.hid hc1
 have HB:=Lib.hid hbox
 have HN:=Lib.hid (And.intro hn (And.intro hre hN))
 have HBa:=Lib.hid (hb.calm hc1)
 have HPs:=Lib.hid (hps.calm hc1)
 have HG:=Lib.hid (And.intro gb gp)
 rw[hn,hre]
 clear hw1 hc1 hbox hn hre hN hb hps gb gp
 go_enter Tryz.func59,Tryz.ntmps59
 go_wp2_with fail
 rw[←HW.out]
 go_loopw [5,20] (fun u q wr=>∃(k:Nat) (l:List NewP),k≤N∧q=.int .i64 k∧Hid (MetTo w1 wr u b ps k l)) (fun _ q _=>N - (intOf q).toNat)
 case atStart=>exact⟨0,[],Nat.zero_le _,rfl,⟨OwnX.nil (Calm.refl _),rfl,fun x hx=>by cases hx⟩⟩
 case round=>
  obtain⟨k,l,hk,rfl,HL⟩:=hrel
  have hcr:=HL.out.own.calm
  have HBr:=Lib.hid (HB.out.calm hcr)
  have hll:=HL.out.len
  rw[HN.out.2.2] at hll
  by_cases hlt:k < N
  ·obtain⟨bb,o,p,Ak,ck,rfl,hbb,hp,q1,q2,q3,q4,q5⟩:=(HPs.out.calm hcr).get (k:=k) (by rw[HN.out.2.2];exact hlt)
   have gp:=HG.out.2 p (List.mem_of_getElem? hp)
   obtain⟨wB,hwB⟩:∃wB,wB=wr.alloc (.cells #[.slice Ak p.parts.length ck,.bool p.rest] 51):=⟨_,rfl⟩
   have hcB:Calm wr wB:=by rw[hwB];exact (Calm.refl wr).alloc _
   have hPA:PatA wB Ak ck p:=⟨q5.calm hcB,q3,by omega⟩
   have hBA:PatA wB A c b:=HBa.out.calm (hcr.trans hcB)
   have x0:=HBr.out.x0
   have x1:=HBr.out.x1
   have hlt0:w.heap.size < wr.heap.size:=by have:=HBr.out.size;omega
   have HWB:=Lib.hid hwB
   have HCB:=Lib.hid hcB
   have HP:=Lib.hid hp
   rcases hm:meetP b p with _ | m
   ·have hcall:=rmeet_no b p A Ak c ck wB hBA hPA HG.out.1 gp hm
    rw[HN.out.1,HN.out.2.1] at hcall
    have HM:=Lib.hid hm
    clear hwB hcB hPA hBA hp q5 gp hm hcr
    go_wp2_with (go_at_call 97;rw[←HWB.out];refine hcall.mono ?_;rintro e w3 ⟨rfl,hc3⟩)
    go_roundw
    case rel=>exact⟨k+1,l,by omega,by go_num,HL.out.miss HP.out HM.out (HCB.out.trans (hc3.trans ((Calm.refl _).alloc _)))⟩
    case measure=>simp[intOf];omega
   ·have hcall:=rmeet_yes b p m A Ak c ck wB hBA hPA HG.out.1 gp hm
    rw[HN.out.1,HN.out.2.1] at hcall
    have HM:=Lib.hid hm
    clear hwB hcB hPA hBA hp q5 gp hm hcr
    go_wp2_with (first
     |(go_at_call 97;rw[←HWB.out];refine hcall.mono ?_;rintro e w3 ⟨⟨A3,c3,rfl,hs3⟩,hc3⟩;have hcA:Calm w3 (w3.alloc (.cells #[.slice A3 m.parts.length c3,.bool m.rest] 51)):=(Calm.refl w3).alloc _)
     |(at_builtin;refine wpList_append_ps rfl (.tmp 31) (.tmp 33) rfl w1 u5 l [⟨A3,c3,m⟩] rfl (HL.out.own.to (HCB.out.trans (hc3.trans (hcA.alloc _)))) _ 1 1 rfl rfl (read_new ⟨A3,c3,m⟩ (by simp[go_sem])) (by omega) ?_;intro v6 w6 hown6 hgr6))
    have HH:=Lib.hid (HL.out.hit HP.out HM.out (HCB.out.trans (hc3.trans (hcA.alloc _))) hown6 (((hs3.calm (hcA.alloc _))).mono (Nat.le_trans HL.out.own.calm.size HCB.out.size)) hgr6)
    clear hown6 hgr6 hcA hs3 hc3
    go_wp2
    go_roundw
    case rel=>exact⟨k+1,_,by omega,by go_num,HH.out⟩
    case measure=>simp[intOf];omega
  ·obtain rfl:k=N:=by omega
   obtain⟨AH,c5,rfl,hS0⟩:=HL.out.sort (by rw[HN.out.2.2];exact Nat.le_refl _)
   obtain⟨m,hm⟩:∃m,l.length=m:=⟨_,rfl⟩
   rw[hm] at hS0 ⊢
   have hm6:m≤16384:=by omega
   have HS0:=Lib.hid hS0
   clear hS0 hcr hm
   go_wp2_with fail
   go_loopw [38] (fun u wr=>∃(i:Nat) (l':List NewP),i≤m∧u=.int .i64 i∧Hid (SortI w1 wr AH m l' b ps)∧Hid (SrtTo l' i)) (fun u _=>m - (intOf u).toNat)
   case atStart=>exact⟨0,l,Nat.zero_le _,rfl,HS0.out,fun a b x y h1 h2=>absurd h2 (Nat.not_lt_zero _)⟩
   case round=>
    obtain⟨i,l1,hi,rfl,HS1,HO1⟩:=hrel
    by_cases hlt:i < m
    ·obtain⟨g,rfl,hge,_⟩:=HS1.out.row (by omega)
     go_wp2_with fail
     go_loopw [11] (fun u wr=>∃(k:Nat) (l':List NewP),k≤i∧u=.int .i64 k∧Hid (SortI w1 wr (some ⟨g,0,none⟩) m l' b ps)∧Hid (Srt l' i k)) (fun u _=>(intOf u).toNat)
     case atStart=>exact⟨i,l1,Nat.le_refl _,rfl,HS1.out,srt_start HO1.out⟩
     case round=>
      obtain⟨k,l2,hk,rfl,HS2,HO2⟩:=hrel
      cases k with
      |zero=>
       go_wp2_with fail
       refine wp_region_calm (by kernel_rfl) (by kernel_rfl) ?_
       repeat (go_big_quiet_step (fail))
       refine wpQuiet_nil ?_
       intro w3 hc3
       have HS3:=Lib.hid (HS2.out.to hc3)
       clear hc3
       go_wp2
       go_roundw
       case rel=>exact⟨i+1,l2,by omega,by go_num,HS3.out,srt_zero HO2.out⟩
       case measure=>simp[intOf];omega
      |succ k=>
       obtain⟨g',hA',_,hrow⟩:=HS2.out.row (by omega)
       obtain rfl:g=g':=by injection hA' with hA';injection hA'
       obtain⟨y,hy⟩:∃y,l2[k+1]?=some y:=⟨_,List.getElem?_eq_getElem (by rw[HS2.out.len];omega)⟩
       obtain⟨x,hx⟩:∃x,l2[k]?=some x:=⟨_,List.getElem?_eq_getElem (by rw[HS2.out.len];omega)⟩
       obtain⟨cy0,cy1⟩:=hrow.at2 hy
       obtain⟨cx0,cx1⟩:=hrow.at2 hx
       have hgx:∀z∈l2,0 < z.p.parts.length:=fun z hz=>(patErr_iff.1 (meetsL_good z.p ((HS2.out.mem z.p).1 (List.mem_map.2 ⟨z,hz,rfl⟩)))).1
       have KT:=Lib.hid (fun (q:CalmTo wr) (z:NewP) (hz:z∈l2)=>rtext_c z.p z.p.parts.length z.c z.p.rest z.A q.w (((HS2.out.each z hz).calm q.h).a) (hgx z hz) rfl rfl)
       have hxm:=List.mem_of_getElem? hx
       have hym:=List.mem_of_getElem? hy
       have e0:=fun q:CalmTo wr=>q.cell cy0 hrow.lt
       have e1:=fun q:CalmTo wr=>q.cell cy1 hrow.lt
       have e2:=fun q:CalmTo wr=>q.cell cx0 hrow.lt
       have e3:=fun q:CalmTo wr=>q.cell cx1 hrow.lt
       obtain⟨v,hv⟩:∃v,Op.bytesLess (patText y.p) (patText x.p)=v:=⟨_,rfl⟩
       have z1:IntKind.i64.wrap (((k+1:Nat):Int) - 1)=(k:Int):=by rw[IntWalk.i64_in _ (by omega)];omega
       have z2:(0:Int) < ((k+1:Nat):Int):=by omega
       have z3:k+1 < m:=by omega
       have z4:k < m:=by omega
       have HX:=Lib.hid (And.intro hx hy)
       have HV:=Lib.hid hv
       have HRow:=Lib.hid hrow
       clear cy0 cy1 cx0 cx1 hx hy hgx hrow
       go_wp2_with fail
       refine wp_region_calm (by kernel_rfl) (by kernel_rfl) ?_
       repeat (go_big_quiet_step ((go_at_call 98;exact calmOf (KT.out _ _ (by first | exact hxm | exact hym)))))
       refine wpQuiet_nil ?_
       intro w3 hc3
       have HS3:=Lib.hid (HS2.out.to hc3)
       have HR3:=Lib.hid (HRow.out.calm hc3)
       clear hc3 e0 e1 e2 e3
       cases v with
       |false=>
        go_wp2
        go_roundw
        case rel=>exact⟨i+1,l2,by omega,by go_num,HS3.out,srt_done HO2.out hk HX.out.1 HX.out.2 HV.out⟩
        case measure=>simp[intOf];omega
       |true=>
        obtain⟨cy0,cy1⟩:=HR3.out.at2 HX.out.2
        obtain⟨cx0,cx1⟩:=HR3.out.at2 HX.out.1
        have f0:=HR3.out.free ((k+1) * 2)
        have f1:=HR3.out.free ((k+1) * 2+1)
        have f2:=HR3.out.free (k * 2)
        have f3:=HR3.out.free (k * 2+1)
        go_wp2_with fail
        go_region
        all_goals
         go_wp2
         go_roundw
         case rel=>
          refine⟨k,(l2.set (k+1) x).set k y,by omega,by go_num,?_,srt_step HO2.out hk (by rw[HS2.out.len];exact hlt) HX.out.1 HX.out.2 HV.out⟩
          first
           |exact (HS3.out.to (Below.drew (Calm.refl _))).swap HX.out.1 HX.out.2
           |exact (HS3.out.swap HX.out.1 HX.out.2).to (Below.drew (Calm.refl _))
           |exact HS3.out.swap HX.out.1 HX.out.2
         case measure=>simp[intOf]
    ·obtain rfl:i=m:=by omega
     have hcS:=HS1.out.calm
     have x0:=(HB.out.calm hcS).x0
     have x1:=(HB.out.calm hcS).x1
     obtain⟨w8,hw8⟩:∃w8,w8=wr.alloc (.cells #[.slice A n c,.bool re,.slice none 0 0] 67):=⟨_,rfl⟩
     have hc8:Calm wr w8:=by rw[hw8];exact (Calm.refl wr).alloc _
     obtain⟨wS,hwS⟩:∃wS,wS=wr:=⟨_,rfl⟩
     have HG0:Hid (GTo wS w8 wS.heap.size A n c re (.slice none 0 0) []):=by
      rw[hwS]
      exact⟨OwnX.nil hc8,Nat.le_refl _,by rw[hw8];exact⟨_,heap_alloc_new wr _⟩,by rw[hw8];simp[go_sem],by rw[hw8];simp[go_sem],by rw[hw8];simp[go_sem]⟩
     have HS:Hid (SortI w1 wS AH i l1 b ps):=by rw[hwS];exact HS1.out
     have HW8:=Lib.hid hw8
     have hwSz:wr.heap.size=wS.heap.size:=by rw[hwS]
     clear hw8 hc8 hcS hwS
     go_wp2_with fail
     rw[←HW8.out]
     clear x0 x1 hwSz
     go_loopw [81] (fun u wq=>∃(j:Nat) (Av:Option Addr) (nv cv:Nat),j≤i∧u=.int .i64 j∧Hid (GTo wS wq wS.heap.size A n c re (.slice Av nv cv) (keptR l1 j))) (fun u _=>i - (intOf u).toNat)
     case atStart=>exact⟨0,_,_,_,Nat.zero_le _,rfl,HG0.out⟩
     case round=>
      obtain⟨wq,rfl⟩:∃wq,wq=wr:=⟨_,rfl⟩
      obtain⟨j,Av,nv,cv,hj,rfl,HGk⟩:=hrel
      have HCq:Hid (Calm wS wq):=HGk.out.own.calm
      by_cases hlt2:j < i
      ·obtain⟨g,rfl,hge,hrow⟩:=HS.out.row (by omega)
       obtain⟨x,hx⟩:∃x,l1[j]?=some x:=⟨_,List.getElem?_eq_getElem (by rw[HS.out.len];exact hlt2)⟩
       have hrq:=hrow.calm HCq.out
       obtain⟨c0,c1⟩:=hrq.at2 hx
       obtain⟨wB,hwB⟩:∃wB,wB=wq.alloc (.cells #[.slice x.A x.p.parts.length x.c,.bool x.p.rest] 51):=⟨_,rfl⟩
       have hcB:Calm wq wB:=by rw[hwB];exact (Calm.refl wq).alloc _
       have b0:wB.cell? ⟨wq.heap.size,0,none⟩=some (.slice x.A x.p.parts.length x.c):=by rw[hwB];simp[go_sem]
       have b1:wB.cell? ⟨wq.heap.size,1,none⟩=some (.bool x.p.rest):=by rw[hwB];simp[go_sem]
       have blt:wq.heap.size < wB.heap.size:=by rw[hwB];simp[go_sem]
       have hrlt:=hrq.lt
       have HWB:=Lib.hid hwB
       have HCB:=Lib.hid hcB
       have HX:=Lib.hid hx
       have HBx:=Lib.hid (And.intro b0 (And.intro b1 blt))
       have HRow:=Lib.hid hrow
       have hgood:Hid (∀z∈l1,patErr z.p=0):=fun z hz=>meetsL_good z.p ((HS.out.mem z.p).1 (List.mem_map.2 ⟨z,hz,rfl⟩))
       have heach:Hid (∀z∈l1,∀W,Calm wB W→PatA W z.A z.c z.p):=fun z hz W hW=>((HS.out.each z hz).calm (HCq.out.trans (hcB.trans hW))).a
       clear hwB hcB b0 b1 blt hx hrq hrow
       go_wp2_with fail
       rw[←HWB.out]
       clear c0 c1
       go_loopw [15,88] (fun u q wk=>∃(t:Nat) (kb:Bool),t≤i∧q=.int .i64 t∧u=.bool kb∧Hid (keepTo l1 j x.p t=kb)∧Hid (Calm wB wk)) (fun _ q _=>i - (intOf q).toNat)
       case atStart=>exact⟨0,true,Nat.zero_le _,rfl,rfl,keepTo_zero _ _ _,Calm.refl _⟩
       case round=>
        obtain⟨wk,rfl⟩:∃wk,wk=wr:=⟨_,rfl⟩
        obtain⟨t,kb,ht,rfl,rfl,HKb,HCk⟩:=hrel
        by_cases hlt3:t < i
        ·obtain⟨y,hy⟩:∃y,l1[t]?=some y:=⟨_,List.getElem?_eq_getElem (by rw[HS.out.len];exact hlt3)⟩
         have hrk:=HRow.out.calm (HCq.out.trans (HCB.out.trans HCk.out))
         obtain⟨d0,d1⟩:=hrk.at2 hy
         have hrklt:=hrk.lt
         obtain⟨wD,hwD⟩:∃wD,wD=wk.alloc (.cells #[.slice y.A y.p.parts.length y.c,.bool y.p.rest] 51):=⟨_,rfl⟩
         have hcD:Calm wk wD:=by rw[hwD];exact (Calm.refl wk).alloc _
         have hcBD:=HCk.out.trans hcD
         have b0:=Calm.at_ HCk.out HBx.out.1 HBx.out.2.2
         have b1:=Calm.at_ HCk.out HBx.out.2.1 HBx.out.2.2
         have blt:=Nat.lt_of_lt_of_le HBx.out.2.2 HCk.out.size
         have hks:=keepTo_succ (l:=l1) (i:=j) (x:=x.p) hy
         rw[HKb.out] at hks
         have hxm:=List.mem_of_getElem? HX.out
         have hym:=List.mem_of_getElem? hy
         obtain⟨vW,hvW⟩:∃vW,insideP x.p y.p=vW:=⟨_,rfl⟩
         obtain⟨vS,hvS⟩:∃vS,decide (x.p=y.p)=vS:=⟨_,rfl⟩
         have KW:=rwithin_c x.p y.p vW x.p.parts.length y.p.parts.length x.c y.c x.p.rest y.p.rest x.A y.A wD (heach.out x hxm wD hcBD) (heach.out y hym wD hcBD) (hgood.out x hxm) (hgood.out y hym) rfl rfl rfl rfl hvW
         have KS:Hid (∀W,Calm wD W→Calls Tryz.prog 28 #[.agg #[.slice x.A x.p.parts.length x.c,.bool x.p.rest],.agg #[.slice y.A y.p.parts.length y.c,.bool y.p.rest]] W fun e w'=>e=.returned (.bool vS)∧Calm W w'):=fun W hW=>same_c x.p y.p vS x.A x.c y.A y.c W (heach.out x hxm W (hcBD.trans hW)).r.toU (heach.out y hym W (hcBD.trans hW)).r.toU hvS
         have HWD:=Lib.hid hwD
         have HKs:=Lib.hid hks
         have HCBD:=Lib.hid hcBD
         have hq0:Hid (wD.cell? ⟨wq.heap.size,0,none⟩=some (.slice x.A x.p.parts.length x.c)∧wD.cell? ⟨wq.heap.size,1,none⟩=some (.bool x.p.rest)∧wq.heap.size < wD.heap.size):=⟨Calm.at_ hcD b0 blt,Calm.at_ hcD b1 blt,Nat.lt_of_lt_of_le blt hcD.size⟩
         have hq1:Hid (wD.cell? ⟨wk.heap.size,0,none⟩=some (.slice y.A y.p.parts.length y.c)∧wD.cell? ⟨wk.heap.size,1,none⟩=some (.bool y.p.rest)∧wk.heap.size < wD.heap.size):=by
          rw[hwD]
          exact⟨by simp[go_sem],by simp[go_sem],by simp[go_sem]⟩
         by_cases hjt:j=t
         ·have hout:Hid (keepTo l1 j x.p (t+1)=kb):=by
           show _=kb
           rw[HKs.out]
           simp[outR,hjt]
          subst hjt
          clear hwD hcD hcBD hks hy hrk hvW hvS KW KS hxm hym
          go_wp2
          rw[←HWD.out]
          go_roundw
          case rel=>exact⟨j+1,kb,by omega,by go_num,rfl,hout.out,HCBD.out⟩
          case measure=>simp[intOf];omega
         ·have hb1:((j:Int) != (t:Int))=true:=by simp;omega
          have hO:Hid (outR j t x.p y.p=(vW && (decide (t < j) || !vS))):=by
           show _=_
           unfold outR
           rw[hvW,←hvS]
           simp[hjt]
          clear hwD hcD hcBD hks hy hrk hvW hvS hxm hym hjt
          cases vW with
          |false=>
           have hout:Hid (keepTo l1 j x.p (t+1)=kb):=by
            show _=kb
            rw[HKs.out,hO.out]
            simp
           go_wp2_with fail
           rw[←HWD.out]
           refine KW.mono ?_
           rintro e w9 ⟨rfl,hc9⟩
           have HC9:=Lib.hid (HCBD.out.trans hc9)
           clear hc9
           go_wp2
           go_roundw
           case rel=>exact⟨t+1,kb,by omega,by go_num,rfl,hout.out,HC9.out⟩
           case measure=>simp[intOf];omega
          |true=>
           by_cases htj:t < j
           ·have hout:Hid (keepTo l1 j x.p (t+1)=false):=by
             show _=false
             rw[HKs.out,hO.out]
             simp[htj]
            go_wp2_with fail
            rw[←HWD.out]
            refine KW.mono ?_
            rintro e w9 ⟨rfl,hc9⟩
            have HC9:=Lib.hid (HCBD.out.trans hc9)
            clear hc9
            go_wp2
            go_roundw
            case rel=>exact⟨t+1,false,by omega,by go_num,rfl,hout.out,HC9.out⟩
            case measure=>simp[intOf];omega
           ·have hout:Hid (keepTo l1 j x.p (t+1)=(kb && vS)):=by
             show _=_
             rw[HKs.out,hO.out]
             simp[htj]
            go_wp2_with fail
            rw[←HWD.out]
            refine KW.mono ?_
            rintro e w9 ⟨rfl,hc9⟩
            clear b0 b1 d0 d1
            have b0:=Calm.at_ hc9 hq0.out.1 hq0.out.2.2
            have b1:=Calm.at_ hc9 hq0.out.2.1 hq0.out.2.2
            have d0:=Calm.at_ hc9 hq1.out.1 hq1.out.2.2
            have d1:=Calm.at_ hc9 hq1.out.2.1 hq1.out.2.2
            have HC9:=Lib.hid hc9
            clear hc9
            go_wp2_with fail
            refine (KS.out w9 HC9.out).mono ?_
            rintro e w10 ⟨rfl,hc10⟩
            have HC10:=Lib.hid (HCBD.out.trans (HC9.out.trans hc10))
            clear hc10 b0 b1 d0 d1
            cases vS with
            |true=>
             go_wp2
             go_roundw
             case rel=>exact⟨t+1,kb,by omega,by go_num,rfl,Lib.hid (by simpa using hout.out),HC10.out⟩
             case measure=>simp[intOf];omega
            |false=>
             go_wp2
             go_roundw
             case rel=>exact⟨t+1,false,by omega,by go_num,rfl,Lib.hid (by simpa using hout.out),HC10.out⟩
             case measure=>simp[intOf];omega
        ·obtain rfl:t=i:=by omega
         have hkr:keepR (l1.map (·.p)) j=kb:=by
          have:=keepTo_end HX.out
          rw[HS.out.len,HKb.out] at this
          exact this.symm
         have hkept:=keptR_succ HX.out
         rw[hkr] at hkept
         have HK2:=Lib.hid hkept
         have HG2:=Lib.hid (HGk.out.calm (HCB.out.trans HCk.out))
         clear hkr hkept
         cases kb with
         |false=>
          have hG3:Hid (GTo wS wk wS.heap.size A n c re (.slice Av nv cv) (keptR l1 (j+1))):=by
           have:=HG2.out
           refine Lib.hid ?_
           rw[HK2.out]
           simpa using this
          go_wp2
          go_roundw
          case rel=>exact⟨j+1,_,_,_,by omega,by go_num,hG3.out⟩
          case measure=>simp[intOf];omega
         |true=>
          have b0:=Calm.at_ HCk.out HBx.out.1 HBx.out.2.2
          have b1:=Calm.at_ HCk.out HBx.out.2.1 HBx.out.2.2
          have blt:=Nat.lt_of_lt_of_le HBx.out.2.2 HCk.out.size
          have g2:=HG2.out.c2
          have glt:=HG2.out.lt
          have hkl:=keptR_len l1 j
          go_wp2_with (at_builtin;refine wpList_append_ps rfl (.tmp 115) (.tmp 117) rfl wS (.slice Av nv cv) (keptR l1 j) [x] rfl (HG2.out.own.to ((Calm.refl _).alloc _)) _ 1 1 rfl rfl (read_new x rfl) (by omega) ?_;intro v10 w10 hown10 hgr10;obtain⟨A10,n10,c10,hv10⟩:=hown10.shape;subst hv10;obtain⟨s2,sf⟩:=HG2.out.after ((Calm.refl _).alloc _) hgr10;have HP:=Lib.hid (HG2.out.put ((Calm.refl _).alloc _) hown10 hgr10))
          have e9:keptR l1 (j+1)=keptR l1 j++[x]:=by rw[HK2.out];simp
          rw[←e9] at HP
          clear hown10 hgr10 s2 sf g2 e9
          go_roundw
          case rel=>exact⟨j+1,_,_,_,by omega,by go_num,HP.out⟩
          case measure=>simp[intOf];omega
      ·obtain rfl:j=i:=by omega
       have hbr:=HB.out.calm (HS.out.calm.trans HCq.out)
       have z0:=hbr.z0
       have z1:=hbr.z1
       have z2:=hbr.z2
       have f0:=hbr.fz 0
       have f1:=hbr.fz 1
       have f2:=hbr.fz 2
       have c0:=HGk.out.c0
       have c1:=HGk.out.c1
       have c2':=HGk.out.c2
       have hD:=fun (u0 u1 u2:Value)=>Lib.hid (rs_done HGk.out HS.out HO1.out HB.out HN.out.1 HN.out.2.1 u0 u1 u2)
       have hcF:=fun (u0 u1 u2:Value)=>Lib.hid (show Calm w (((wq.setCell ⟨w.heap.size+1,0,none⟩ u0).setCell ⟨w.heap.size+1,1,none⟩ u1).setCell ⟨w.heap.size+1,2,none⟩ u2) from Below.setCell (Below.setCell (Below.setCell (HC.out.trans (HS.out.calm.trans HCq.out)) (by show w.heap.size≤w.heap.size+1;omega) _) (by show w.heap.size≤w.heap.size+1;omega) _) (by show w.heap.size≤w.heap.size+1;omega) _)
       clear hbr
       go_wp2
       refine bodyPost_ret (v:=.agg #[.slice A n c,.bool re,.slice Av nv cv]) ?_ rfl ⟨(hD _ _ _).out,(hcF _ _ _).out⟩
       rw[results_cell1 rfl]
       go_simp
end Go.Proofs.YtdcdabbepnahnaaGreatDoor
