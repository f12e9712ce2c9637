/- Walks: slices.SortFunc at holes, CompactFunc, region.Reduce. -/
import Derived.Test.YtcofdlipapnohaaGreatDoorSortLay
import Derived.Laws.IdiomCopy
import Derived.Deep.Upon
import Derived.Maps.AppendAt
import Derived.Shelf.SlSortCmp.NoneTotal
import Derived.IntWalk
import Derived.Lib.SliceRun
import Derived.Deep.RegionLaw
import Derived.Deep.RegionHeld3
import Derived.Test.YtcofdlipapnohaaGreatDoorZMeetP
set_option linter.unusedVariables false
set_option linter.unusedSimpArgs false
namespace Go.Proofs.YtcofdlipapnohaaGreatDoor
open Go Go.RowKit Sy
def cmpT (x y:NewP):Int:=Lib.compareBytes (patText x.p) (patText y.p)
theorem compareH_c (x y:Str) (w:World):Calls Tryz.prog 39 #[.string (bs x),.string (bs y)] w fun e w'=>e=.returned (.int .i64 (Lib.compareBytes x y))∧w=w':=
 (Tryz.strings_Compare (bs x) (bs y) w).mono fun _ _ ⟨he,hw⟩=>⟨by rw[he,bs_toList,bs_toList],hw.symm⟩
set_option maxHeartbeats 1000000 in
theorem hcmp_c (x y:NewP) (W:World):Calls Tryz.prog 203 #[.agg #[.slice x.A x.p.parts.length x.c,.bool x.p.rest,.string (bs (patText x.p))],.agg #[.slice y.A y.p.parts.length y.c,.bool y.p.rest,.string (bs (patText y.p))]] W fun e w'=>e=.returned (.int .i64 (cmpT x y))∧∃q os',w'=Go.Sort.grow (W.drewN q) os':=by
 have hcon:=fun W'=>compareH_c (patText x.p) (patText y.p) W'
 unfold cmpT
 generalize Lib.compareBytes (patText x.p) (patText y.p)=r at hcon ⊢
 generalize patText x.p=s at hcon ⊢
 generalize patText y.p=t at hcon ⊢
 go_enter Tryz.func203,Tryz.ntmps203
 go_wp2_with (go_at_call 39;refine (hcon _).mono ?_;rintro e w' ⟨rfl,rfl⟩)
 go_ret
 exact⟨rfl,0,_,by rw[Go.Sort.alloc_eq_grow,Go.Sort.alloc_eq_grow,Go.Sort.grow_grow];rfl⟩
theorem swoT:Go.Sort.SWO (ltOf cmpT) where
 irrefl x:=by
  have:cmpT x x=0:=cmp_zero.2 rfl
  simp[ltOf,this]
 trans x y z h1 h2:=by
  simp only[ltOf,decide_eq_true_eq] at h1 h2 ⊢
  exact cmp_trans h1 h2
 ntrans x y z h1 h2:=by
  simp only[ltOf,decide_eq_false_iff_not] at h1 h2 ⊢
  intro h
  have a1:=cmp_neg (patText x.p) (patText y.p)
  have a2:=cmp_neg (patText y.p) (patText z.p)
  have a3:=cmp_neg (patText x.p) (patText z.p)
  unfold cmpT at h1 h2 h
  have b1:leT y.p x.p:=by unfold leT;omega
  have b2:leT z.p y.p:=by unfold leT;omega
  have:=leT_trans b2 b1
  unfold leT at this
  omega
theorem holds_of_row {w:World} {g:Nat} {l:List NewP} {T:TypeId} (h:RowX encH 3 T w g 0 l):Go.Sort.HoldsK encH 3 w g 0 l.toArray:=by
 intro j hj
 rw[Go.Sort.size_flatK] at hj
 have hj':j < l.length * 3:=by simpa using hj
 have hk:j / 3 < l.length:=by omega
 have hget:(l.toArray[j / 3]! : NewP)=l[j / 3]:=by simp[hk]
 refine⟨?_,h.free _⟩
 rw[Go.Sort.get_flatK _ _ _ _ (by simpa using hj'),hget]
 have hi:j % 3 < (encH l[j / 3]).length:=by rw[encH_len];omega
 have:=h.cell (j / 3) _ (List.getElem?_eq_getElem hk) (j % 3) _ (List.getElem?_eq_getElem hi)
 have e:0+j / 3 * 3+j % 3=0+j:=by omega
 rw[e] at this
 rw[this]
 simp[hi]
theorem sort_kind {w:World} {g m:Nat} {T:TypeId} {d:Array NewP} {os:Array Obj} (h:∃cs,w.heap[g]?=some (.cells cs T (0,0))):∃cs,(sortWorldK encH 3 w g 0 m d os).heap[g]?=some (.cells cs T (0,0)):=by
 obtain⟨cs,hh⟩:=h
 have hlt:=heap_lt hh
 unfold sortWorldK
 have key:∃cs',(Go.Sort.putRowK encH 3 (Go.Sort.ahead w m) g 0 d).heap[g]?=some (.cells cs' T (0,0)):=by
  refine⟨Go.Sort.putCells id 0 (Go.Sort.flatK encH 3 d) cs,?_⟩
  simp only[Go.Sort.putRowK,Go.Sort.putRow,Go.Sort.mapBlock,Array.getElem?_modify]
  rw[if_pos trivial]
  show Option.map _ (w.heap[g]?)=_
  rw[hh]
  rfl
 obtain⟨cs',h2⟩:=key
 exact⟨cs',(Go.Sort.heap_grow_old _ _ (by rw[Go.Sort.size_putRowK];exact hlt)).trans h2⟩
theorem sort_grown {w:World} {g m:Nat} {d:Array NewP} {os:Array Obj}:w.grownBy (sortWorldK encH 3 w g 0 m d os) (some g):=by
 unfold sortWorldK
 refine⟨rfl,rfl,rfl,?_,fun k hk hne=>?_⟩
 ·rw[Go.Sort.size_grow,Go.Sort.size_putRowK]
  exact Nat.le_add_right _ _
 ·refine (Go.Sort.heap_grow_old _ _ (by rw[Go.Sort.size_putRowK];exact hk)).trans ?_
  simp only[Go.Sort.putRowK,Go.Sort.putRow,Go.Sort.mapBlock,Array.getElem?_modify]
  rw[if_neg (fun e=>hne (by rw[e]))]
  rfl
def SortEnd (l:List NewP) (T:TypeId) (g:Nat) (w w':World):Prop:=∃l':List NewP,l'.Perm l∧l'.Pairwise (fun x y=>leT x.p y.p)∧RowX encH 3 T w' g 0 l'∧w.grownBy w' (some g)
theorem sort_c (l:List NewP) (g c:Nat) (w:World) (hr:RowX encH 3 296 w g 0 l) (hl:l.length≤1000000) :
  Calls Tryz.prog 202 #[.slice (some ⟨g,0,none⟩) l.length c,.func (.func 203) #[] #[]] w fun e w'=>e=.returned (.tuple #[])∧SortEnd l 296 g w w':=by
 have eg:∀args w,(callFunc 203 args).run Tryz.prog w=.ok (.enter 203 args) w:=enters_of Tryz.func203 (by kernel_rfl) rfl
 have hcon:=AnyQ.slices_SortFunc Tryz.sortHole 3 Tryz.isAgg296 Tryz.sizeOf296 encH encH_len encH_one cmpT swoT 203 #[] g 0 c l.toArray w eg (fun _ _ _ _ x y=>hcmp_c x y _) (holds_of_row hr) hr.lt (by simp;omega)
 rw[List.size_toArray] at hcon
 change Calls Tryz.prog 202 _ _ _ at hcon
 refine hcon.mono fun e w' ⟨he,d',n,os,hp,hs,hw⟩=>⟨he,d'.toList,?_,?_,?_,?_⟩
 ·have h1:=hp.2.2
  have h2:d'.size=l.length:=hp.1.trans (by simp)
  have e1:d'.extract 0 l.length=d':=by rw[←h2];simp
  have e2:l.toArray.extract 0 l.length=l.toArray:=by simp
  rw[e1,e2] at h1
  simpa using h1
 ·rw[List.pairwise_iff_getElem]
  intro i j hi hj hij
  have h2:d'.size=l.length:=hp.1.trans (by simp)
  have hi':i < d'.size:=by simpa using hi
  have hj':j < d'.size:=by simpa using hj
  have h3:=hs i j (Nat.zero_le _) hij (by rw[←h2];exact hj')
  simp only[ltOf,decide_eq_false_iff_not,getElem!_pos d' i hi',getElem!_pos d' j hj'] at h3
  have h4:=cmp_neg (patText d'[i].p) (patText d'[j].p)
  unfold cmpT at h3
  show leT (d'.toList[i]).p (d'.toList[j]).p
  unfold leT
  simp only[Array.getElem_toList]
  omega
 ·have h2:d'.size=l.toArray.size:=hp.1
  have hh:=holdsK_sortWorldK_c encH 3 w g 0 l.toArray d' n os (holds_of_row hr) hr.lt h2
  rw[hw]
  refine⟨sort_kind hr.kind,fun k x hk i u hu=>?_⟩
  have hk':k < d'.size:=by simpa using (List.getElem?_eq_some_iff.1 hk).1
  have hi:i < 3:=(List.getElem?_eq_some_iff.1 hu).1
  have hx:d'[k]! = x:=by
   rw[getElem!_pos d' k hk']
   simpa using (List.getElem?_eq_some_iff.1 hk).2
  have:=(hh.cell (i:=k) (c:=i) hk' hi).1
  rw[hx] at this
  rw[this]
  congr 1
  exact (List.getElem?_eq_some_iff.1 hu).2 ▸ (getElem!_pos (encH x) i (List.getElem?_eq_some_iff.1 hu).1)
 ·rw[hw]
  exact sort_grown
theorem sort_none (c:Nat) (fv:Value) (w:World):Calls Tryz.prog 202 #[.slice none 0 c,fv] w fun e w'=>e=.returned (.tuple #[])∧w=w':=by
 have hcon:=AnyF.slices_SortFunc_none Tryz.sortHole none c fv w
 change Calls Tryz.prog 202 _ _ _ at hcon
 exact hcon.mono fun e w' ⟨h1,h2⟩=>⟨h1,h2.symm⟩
set_option maxHeartbeats 1000000 in
theorem heq_c (x y:NewP) (v:Bool) (W:World) (hv:(patText x.p == patText y.p)=v):Calls Tryz.prog 205 #[.agg #[.slice x.A x.p.parts.length x.c,.bool x.p.rest,.string (bs (patText x.p))],.agg #[.slice y.A y.p.parts.length y.c,.bool y.p.rest,.string (bs (patText y.p))]] W fun e w'=>e=.returned (.bool v)∧Calm W w':=by
 generalize patText x.p=s at hv ⊢
 generalize patText y.p=t at hv ⊢
 by_cases h:s=t
 ·subst h
  obtain rfl:true=v:=by simpa using hv
  clear hv
  go_enter Tryz.func205,Tryz.ntmps205
  go_wp2
  go_ret
  exact⟨rfl,((Calm.refl W).alloc _).alloc _⟩
 ·have h1:(s == t)=false:=by simpa using h
  rw[h1] at hv
  subst hv
  clear h
  go_enter Tryz.func205,Tryz.ntmps205
  go_wp2
  go_ret
  exact⟨ret_bool (by simp[h1]),((Calm.refl W).alloc _).alloc _⟩
def keepsH (l:List NewP) (j:Nat):Bool:=j == 0 || !(patText (l.getD j default).p == patText (l.getD (j - 1) default).p)
def dedTo (l:List NewP) (m:Nat):List NewP:=((List.range m).filter (keepsH l)).map fun j=>l.getD j default
theorem dedTo_succ (l:List NewP) (m:Nat):dedTo l (m+1)=dedTo l m++(if keepsH l m then [l.getD m default] else []):=by
 unfold dedTo
 rw[List.range_succ,List.filter_append,List.map_append]
 congr 1
 by_cases h:keepsH l m <;> simp[h]
theorem getD_some {l:List NewP} {j:Nat} {x:NewP} (h:l[j]?=some x):l.getD j default=x:=by simp[List.getD_eq_getElem?_getD,h]
theorem dedTo_all {l:List NewP} {m:Nat} (hm:m≤l.length) (h:∀j,j < m→keepsH l j=true):dedTo l m=l.take m:=by
 unfold dedTo
 rw[List.filter_eq_self.2 (fun j hj=>h j (List.mem_range.1 hj))]
 apply List.ext_getElem
 ·simp[hm]
 ·intro i h1 h2
  have hi:i < m:=by simpa using h1
  simp[List.getD_eq_getElem?_getD,show i < l.length by omega]
theorem dedTo_sub {l:List NewP} {m:Nat} (hm:m≤l.length):∀x∈dedTo l m,x∈l:=fun x hx=>by
 obtain⟨j,hj,rfl⟩:=List.mem_map.1 hx
 have hj:=List.mem_range.1 (List.mem_filter.1 hj).1
 rw[getD_some (List.getElem?_eq_getElem (show j < l.length by omega))]
 exact List.getElem_mem _
theorem dedTo_mem {l:List NewP} (hg:∀x∈l,patErr x.p=0) (y:Pat):y∈(dedTo l l.length).map (·.p)↔y∈l.map (·.p):=by
 constructor
 ·intro h
  obtain⟨x,hx,rfl⟩:=List.mem_map.1 h
  exact List.mem_map.2 ⟨x,dedTo_sub (Nat.le_refl _) x hx,rfl⟩
 ·intro h
  obtain⟨x,hx,rfl⟩:=List.mem_map.1 h
  obtain⟨j,hj,e⟩:=List.mem_iff_getElem.1 hx
  subst e
  have key:∀j (hj:j < l.length),(l[j]).p∈(dedTo l l.length).map (·.p):=fun j=>by
   induction j with
   |zero=>
    intro hj
    refine List.mem_map.2 ⟨l[0],List.mem_map.2 ⟨0,List.mem_filter.2 ⟨List.mem_range.2 hj,rfl⟩,getD_some (List.getElem?_eq_getElem hj)⟩,rfl⟩
   |succ j ih=>
    intro hj
    by_cases hk:keepsH l (j+1)=true
    ·exact List.mem_map.2 ⟨l[j+1],List.mem_map.2 ⟨j+1,List.mem_filter.2 ⟨List.mem_range.2 hj,hk⟩,getD_some (List.getElem?_eq_getElem hj)⟩,rfl⟩
    ·have e:patText (l[j+1]).p=patText (l[j]).p:=by
      unfold keepsH at hk
      rw[getD_some (List.getElem?_eq_getElem hj),show j+1 - 1=j by omega,getD_some (List.getElem?_eq_getElem (show j < l.length by omega))] at hk
      simpa using hk
     rw[patText_inj (hg _ (List.getElem_mem _)) (hg _ (List.getElem_mem _)) e]
     exact ih (by omega)
  exact key j hj
theorem dedTo_strict {l:List NewP} (hs:l.Pairwise (fun x y=>leT x.p y.p)):((dedTo l l.length).map (·.p)).Pairwise ltT:=by
 unfold dedTo
 rw[List.pairwise_map,List.pairwise_map]
 refine List.Pairwise.imp_of_mem ?_ (List.Pairwise.filter _ List.pairwise_lt_range)
 intro i j hi hj hij
 have hj2:=List.mem_filter.1 hj
 have hjl:=List.mem_range.1 hj2.1
 have hil:i < l.length:=by omega
 obtain⟨t,rfl⟩:∃t,j=t+1:=⟨j - 1,by omega⟩
 have hk:=hj2.2
 unfold keepsH at hk
 rw[getD_some (List.getElem?_eq_getElem hjl),show t+1 - 1=t by omega,getD_some (List.getElem?_eq_getElem (show t < l.length by omega))] at hk
 rw[getD_some (List.getElem?_eq_getElem hil),getD_some (List.getElem?_eq_getElem hjl)]
 have hne:patText (l[t+1]).p≠patText (l[t]).p:=by simpa using hk
 have hpw:=List.pairwise_iff_getElem.1 hs
 have h1:leT (l[t]).p (l[t+1]).p:=hpw t (t+1) (by omega) hjl (by omega)
 have h2:ltT (l[t]).p (l[t+1]).p:=by
  have:Lib.compareBytes (patText (l[t]).p) (patText (l[t+1]).p)≠0:=fun e=>hne (cmp_zero.1 e).symm
  unfold leT at h1
  unfold ltT
  omega
 by_cases e:i=t
 ·subst e
  exact h2
 ·have h3:leT (l[i]).p (l[t]).p:=hpw i t hil (by omega) (by omega)
  by_cases h4:Lib.compareBytes (patText (l[i]).p) (patText (l[t]).p)=0
  ·unfold ltT at h2 ⊢
   rw[cmp_zero.1 h4]
   exact h2
  ·exact ltT_trans (by unfold leT at h3;unfold ltT;omega) h2
structure CompI (l:List NewP) (m k:Nat) (L:List NewP):Prop where
 size:L.length=l.length
 len:(dedTo l m).length=k
 lt:k < m
 low:∀j,j < k→(dedTo l m)[j]?=L[j]?
 high:∀j,k≤j→L[j]?=l[j]?
theorem CompI.start {l:List NewP} {k0:Nat} (hk0:k0 < l.length) (hall:∀j,j < k0→keepsH l j=true) (hdup:keepsH l k0=false):CompI l (k0+1) k0 l:=by
 have e:dedTo l (k0+1)=l.take k0:=by rw[dedTo_succ,hdup,dedTo_all (by omega) hall];simp
 exact⟨rfl,by rw[e];simp;omega,Nat.lt_succ_self _,fun j hj=>by rw[e,List.getElem?_take,if_pos hj],fun _ _=>rfl⟩
theorem CompI.keep {l L:List NewP} {m k:Nat} {x:NewP} (h:CompI l m k L) (hm:l[m]?=some x) (hk:keepsH l m=true):CompI l (m+1) (k+1) (L.set k x):=by
 have hml:=(List.getElem?_eq_some_iff.1 hm).1
 have e:dedTo l (m+1)=dedTo l m++[x]:=by rw[dedTo_succ,hk,if_pos rfl,getD_some hm]
 refine⟨by rw[List.length_set];exact h.size,by rw[e,List.length_append,h.len];rfl,by have:=h.lt;omega,fun j hj=>?_,fun j hj=>?_⟩
 ·rw[e]
  by_cases hjk:j=k
  ·subst hjk
   rw[List.getElem?_append_right (by rw[h.len];exact Nat.le_refl _),h.len,Nat.sub_self,List.getElem?_set_self (by have:=h.lt;rw[h.size];omega)]
   rfl
  ·rw[List.getElem?_append_left (by rw[h.len];omega),List.getElem?_set_ne (Ne.symm hjk)]
   exact h.low j (by omega)
 ·rw[List.getElem?_set_ne (by omega)]
  exact h.high j (by omega)
theorem CompI.skip {l L:List NewP} {m k:Nat} (h:CompI l m k L) (hk:keepsH l m=false):CompI l (m+1) k L:=by
 have e:dedTo l (m+1)=dedTo l m:=by rw[dedTo_succ,hk];simp
 exact⟨h.size,by rw[e];exact h.len,by have:=h.lt;omega,fun j hj=>by rw[e];exact h.low j hj,h.high⟩
theorem CompI.mem {l L:List NewP} {m k:Nat} (h:CompI l m k L) (hm:m≤l.length):∀x∈L,x∈l:=fun x hx=>by
 obtain⟨j,hj,e⟩:=List.mem_iff_getElem.1 hx
 subst e
 by_cases hjk:j < k
 ·have:=h.low j hjk
  rw[List.getElem?_eq_getElem hj] at this
  exact dedTo_sub hm _ (List.mem_of_getElem? this)
 ·have:=h.high j (by omega)
  rw[List.getElem?_eq_getElem hj] at this
  exact List.mem_of_getElem? this.symm
theorem RowX.at3 {w:World} {g:Nat} {T:TypeId} {l:List NewP} (h:RowX encH 3 T w g 0 l) {k:Nat} {x:NewP} (hk:l[k]?=some x) :
  w.cell? ⟨g,k * 3,none⟩=some (.slice x.A x.p.parts.length x.c)∧w.cell? ⟨g,k * 3+1,none⟩=some (.bool x.p.rest)∧w.cell? ⟨g,k * 3+2,none⟩=some (.string (bs (patText x.p))):=by
 have h0:=h.cell k x hk 0 _ rfl
 have h1:=h.cell k x hk 1 _ rfl
 have h2:=h.cell k x hk 2 _ rfl
 rw[Nat.zero_add] at h0 h1 h2
 exact⟨h0,h1,h2⟩
def EqH (g:Nat):Prop:=∀(x y:NewP) (v:Bool) (W:World),(patText x.p == patText y.p)=v→Calls Tryz.prog g #[.agg #[.slice x.A x.p.parts.length x.c,.bool x.p.rest,.string (bs (patText x.p))],.agg #[.slice y.A y.p.parts.length y.c,.bool y.p.rest,.string (bs (patText y.p))]] W fun e w'=>e=.returned (.bool v)∧Calm W w'
def CompEnd (l:List NewP) (T:TypeId) (g c:Nat) (w:World) (e:Ending) (w':World):Prop:=e=.returned (.slice (some ⟨g,0,none⟩) (dedTo l l.length).length c)∧RowX encH 3 T w' g 0 (dedTo l l.length)∧w.grownBy w' (some g)
theorem run_clear_x {P:Program} (w:World) (t e ty:TypeId) (z:Value) (K:Nat) (ht:P.underlying t=some (.slice e)) (hv:∀w,(zeroValue e).run P w=.ok z w) (hz:z.cells.size=K) (hone:∀u∈z.cells.toList,u.oneCell'=true) (hK:0 < K) (b o n c:Nat) (hn:0 < n)
  (hc:∀j,j < n * K→(w.cell? ⟨b,o+j,none⟩).isSome=true) (hf:∀j,j < n * K→w.frozen? ⟨b,o+j,none⟩=false) :
  (Builtin.clear_ #[t] ty #[.slice (some ⟨b,o,none⟩) n c]).run P w=.ok (.tuple #[]) (w.setCells b o (Builtin.zeroCells z.cells n).toList)∧(Builtin.zeroCells z.cells n).toList.length=n * K:=by
 have hlen:(Builtin.zeroCells z.cells n).toList.length=n * K:=by simp[Builtin.zeroCells,hz]
 have hone':∀v∈(Builtin.zeroCells z.cells n).toList,v.oneCell'=true:=by
  intro v hv'
  simp only[Builtin.zeroCells,Array.toList_map,List.mem_map] at hv'
  obtain⟨i,_,rfl⟩:=hv'
  have hi:i % z.cells.size < z.cells.size:=Nat.mod_lt _ (by rw[hz];exact hK)
  rw[getElem!_pos z.cells _ hi]
  exact hone _ (by simp)
 have hst:=run_storeCells_cells (P:=P) b o (Builtin.zeroCells z.cells n).toList 0 w (by rw[hlen];simpa using hc) (by rw[hlen];simpa using hf) hone'
 simp only[Nat.add_zero] at hst
 obtain⟨m,rfl⟩:∃m,n=m+1:=⟨n - 1,by omega⟩
 exact⟨by simp[Builtin.clear_,run_underlying ht,hv,hst],hlen⟩
set_option maxHeartbeats 8000000 in
theorem compf_c (f:Nat) (eg:∀args w,(callFunc f args).run Tryz.prog w=.ok (.enter f args) w) (hf:EqH f) (l:List NewP) (g c:Nat) (w:World) (hr:RowX encH 3 296 w g 0 l) (hl:l.length≤1000000) (hlc:l.length≤c) (hc:c≤9223372036854775807) :
  Calls Tryz.prog 204 #[.slice (some ⟨g,0,none⟩) l.length c,.func (.func f) #[] #[]] w fun e w'=>CompEnd l 296 g c w e w':=by
 obtain⟨n,hn⟩:∃n,l.length=n:=⟨_,rfl⟩
 rw[hn] at hl hlc
 have HN:=Lib.hid hn
 have HR:=Lib.hid hr
 have HF:=Lib.hid hf
 rw[hn]
 clear hn hr hf
 have HAll:Hid ((∀j,j < n→keepsH l j=true)→∀w',w.grownBy w' (some g)→RowX encH 3 296 w' g 0 l→CompEnd l 296 g c w (.returned (.slice (some ⟨g,0,none⟩) n c)) w'):=fun h w' hg hr'=>by
  have e:dedTo l l.length=l:=by rw[dedTo_all (Nat.le_refl _) (fun j hj=>h j (by rw[←HN.out];exact hj)),List.take_length]
  exact⟨by rw[e,HN.out],by rw[e];exact hr',hg⟩
 by_cases h2:n < 2
 ·go_enter Tryz.func204,Tryz.ntmps204
  go_wp2
  go_ret
  exact HAll.out (fun j hj=>by
   rcases j with _ | j
   ·rfl
   ·omega) w (calm_grown (Calm.refl w)) HR.out
 ·go_enter Tryz.func204,Tryz.ntmps204
  go_wp2_with fail
  go_loopw [5] (fun u wr=>∃J:Nat,1≤J∧J≤n∧u=.int .i64 J∧Hid (∀j,j < J→keepsH l j=true)∧Hid (Calm w wr)) (fun u _=>n - (intOf u).toNat)
  case atStart=>exact⟨1,Nat.le_refl _,by omega,rfl,(fun j hj=>by
   have e:j=0:=by omega
   rw[e]
   rfl),Calm.refl _⟩
  case round=>
   obtain⟨J,hJ1,hJn,rfl,HK,HC⟩:=hrel
   by_cases hlt:J < n
   ·obtain⟨x,hx⟩:∃x,l[J]?=some x:=⟨_,List.getElem?_eq_getElem (by rw[HN.out];exact hlt)⟩
    obtain⟨y,hy⟩:∃y,l[J - 1]?=some y:=⟨_,List.getElem?_eq_getElem (by rw[HN.out];omega)⟩
    have hrw:=HR.out.calm HC.out
    obtain⟨cx0,cx1,cx2⟩:=hrw.at3 hx
    obtain⟨cy0,cy1,cy2⟩:=hrw.at3 hy
    obtain⟨v,hv⟩:∃v,(patText x.p == patText y.p)=v:=⟨_,rfl⟩
    have K1:=Lib.hid (fun p:CalmTo wr=>HF.out x y v p.w hv)
    have e0:=fun p:CalmTo wr=>p.cell cx0 hrw.lt
    have e1:=fun p:CalmTo wr=>p.cell cx1 hrw.lt
    have e2:=fun p:CalmTo wr=>p.cell cx2 hrw.lt
    have e3:=fun p:CalmTo wr=>p.cell cy0 hrw.lt
    have e4:=fun p:CalmTo wr=>p.cell cy1 hrw.lt
    have e5:=fun p:CalmTo wr=>p.cell cy2 hrw.lt
    have hkv:Hid (keepsH l J=!v):=by
     show keepsH l J=!v
     unfold keepsH
     rw[getD_some hx,getD_some hy,hv]
     have:(J == 0)=false:=by simp;omega
     rw[this]
     rfl
    have HRw:=Lib.hid hrw
    have z1:IntKind.i64.wrap ((J:Int) - 1)=(J:Int) - 1:=IntWalk.i64_in _ (by omega)
    have z2:(0:Int)≤(J:Int) - 1:=by omega
    have z3:((J:Int) - 1).toNat=J - 1:=by omega
    have z4:(J:Int) - 1 < (n:Int):=by omega
    clear hrw hx hy hv cx0 cx1 cx2 cy0 cy1 cy2
    go_wp2_with fail
    refine wp_region_calm (by kernel_rfl) (by kernel_rfl) ?_
    repeat (go_big_quiet_step ((go_at_fn f;exact calmOf (K1.out _))))
    refine wpQuiet_nil ?_
    intro w3 hc3
    have HC3:=Lib.hid (HC.out.trans hc3)
    have HR3:=Lib.hid (HRw.out.calm hc3)
    clear e0 e1 e2 e3 e4 e5 z1 z2 z3 z4 hc3
    cases v with
    |false=>
     go_wp2
     go_roundw
     case rel=>
      refine⟨J+1,by omega,by omega,by go_num,fun j hj=>?_,HC3.out⟩
      by_cases e:j=J
      ·rw[e]
       exact hkv.out
      ·exact HK.out j (by omega)
     case measure=>simp[intOf];omega
    |true=>
     have hJc:J≤c:=by omega
     go_wp2_with fail
     go_loopw [5,7] (fun u5 u7 wr=>∃(kk k2:Nat) (L:List NewP),u5=.int .i64 kk∧u7=.int .i64 k2∧1≤k2∧J+k2≤n∧kk < J+k2∧Hid (CompI l (J+k2) kk L)∧Hid (RowX encH 3 296 wr g 0 L)∧Hid (w.grownBy wr (some g))) (fun _ u7 _=>n - J - (intOf u7).toNat)
     case atStart=>exact⟨J,1,l,rfl,rfl,Nat.le_refl _,by omega,by omega,CompI.start (by rw[HN.out];exact hlt) HK.out hkv.out,HR3.out,calm_grown HC3.out⟩
     case round=>
      obtain⟨kk,k2,L,rfl,rfl,hk1,hk2,hkk,HI,HRL,HG⟩:=hrel
      have hLl:Hid (L.length=n):=HI.out.size.trans HN.out
      by_cases hlt2:J+k2 < n
      ·obtain⟨x2,hx⟩:∃x2,l[J+k2]?=some x2:=⟨_,List.getElem?_eq_getElem (by rw[HN.out];exact hlt2)⟩
       obtain⟨y2,hy⟩:∃y2,l[J+(k2 - 1)]?=some y2:=⟨_,List.getElem?_eq_getElem (by rw[HN.out];omega)⟩
       have hX:L[J+k2]?=some x2:=(HI.out.high _ (by omega)).trans hx
       have hY:L[J+(k2 - 1)]?=some y2:=(HI.out.high _ (by omega)).trans hy
       obtain⟨cx0,cx1,cx2⟩:=HRL.out.at3 hX
       obtain⟨cy0,cy1,cy2⟩:=HRL.out.at3 hY
       rw[Nat.add_mul] at cx0 cx1 cx2 cy0 cy1 cy2
       obtain⟨v2,hv⟩:∃v2,(patText x2.p == patText y2.p)=v2:=⟨_,rfl⟩
       have K2:=Lib.hid (fun p:CalmTo wr=>HF.out x2 y2 v2 p.w hv)
       have e0:=fun p:CalmTo wr=>p.cell cx0 HRL.out.lt
       have e1:=fun p:CalmTo wr=>p.cell cx1 HRL.out.lt
       have e2:=fun p:CalmTo wr=>p.cell cx2 HRL.out.lt
       have e3:=fun p:CalmTo wr=>p.cell cy0 HRL.out.lt
       have e4:=fun p:CalmTo wr=>p.cell cy1 HRL.out.lt
       have e5:=fun p:CalmTo wr=>p.cell cy2 HRL.out.lt
       have hkv2:Hid (keepsH l (J+k2)=!v2):=by
        show keepsH l (J+k2)=!v2
        unfold keepsH
        rw[getD_some hx,show J+k2 - 1=J+(k2 - 1) by omega,getD_some hy,hv]
        have:(J+k2 == 0)=false:=by simp;omega
        rw[this]
        rfl
       have z1:IntKind.i64.wrap ((k2:Int) - 1)=(k2:Int) - 1:=IntWalk.i64_in _ (by omega)
       have z2:(0:Int)≤(k2:Int) - 1:=by omega
       have z3:((k2:Int) - 1).toNat=k2 - 1:=by omega
       have z4:(k2:Int) - 1 < ((n - J:Nat):Int):=by omega
       have z5:(k2:Int) < ((n - J:Nat):Int):=by omega
       have HX2:=Lib.hid (And.intro hx hX)
       clear hx hy hX hY hv cx0 cx1 cx2 cy0 cy1 cy2
       go_wp2_with fail
       refine wp_region_calm (by kernel_rfl) (by kernel_rfl) ?_
       repeat (go_big_quiet_step ((go_at_fn f;exact calmOf (K2.out _))))
       refine wpQuiet_nil ?_
       intro w4 hc4
       have HR4:=Lib.hid (HRL.out.calm hc4)
       have HG4:=Lib.hid (HG.out.trans (calm_grown hc4))
       clear e0 e1 e2 e3 e4 e5 z1 z2 z3 z4 hc4
       cases v2 with
       |true=>
        go_wp2
        go_roundw
        case rel=>exact⟨kk,k2+1,L,rfl,by go_num,by omega,by omega,by omega,HI.out.skip hkv2.out,HR4.out,HG4.out⟩
        case measure=>simp[intOf];omega
       |false=>
        obtain⟨y3,hy3⟩:∃y3,L[kk]?=some y3:=⟨_,List.getElem?_eq_getElem (by rw[hLl.out];omega)⟩
        obtain⟨cx0,cx1,cx2⟩:=HR4.out.at3 HX2.out.2
        obtain⟨cy0,cy1,cy2⟩:=HR4.out.at3 hy3
        rw[Nat.add_mul] at cx0 cx1 cx2
        have f0:=HR4.out.free (kk * 3)
        have f1:=HR4.out.free (kk * 3+1)
        have f2:=HR4.out.free (kk * 3+2)
        have hput:Hid (RowX encH 3 296 (((w4.setCell ⟨g,kk * 3,none⟩ (.slice x2.A x2.p.parts.length x2.c)).setCell ⟨g,kk * 3+1,none⟩ (.bool x2.p.rest)).setCell ⟨g,kk * 3+2,none⟩ (.string (bs (patText x2.p)))) g 0 (L.set kk x2)):=by
         have:=HR4.out.put encH_len (k:=kk) (by rw[hLl.out];omega) x2
         rw[Nat.zero_add] at this
         exact this
        have hgr:Hid (w.grownBy (((w4.setCell ⟨g,kk * 3,none⟩ (.slice x2.A x2.p.parts.length x2.c)).setCell ⟨g,kk * 3+1,none⟩ (.bool x2.p.rest)).setCell ⟨g,kk * 3+2,none⟩ (.string (bs (patText x2.p)))) (some g)):=HG4.out.trans (grown_setCells g (kk * 3) (encH x2))
        have hkn:kk < n:=by omega
        clear hy3
        go_wp2
        go_roundw
        case rel=>exact⟨kk+1,k2+1,L.set kk x2,by go_num,by go_num,by omega,by omega,by omega,HI.out.keep HX2.out.1 hkv2.out,hput.out,hgr.out⟩
        case measure=>simp[intOf];omega
      ·have hend:J+k2=n:=by omega
       have hkn:kk < n:=by omega
       obtain⟨hcl,hzl⟩:(∀ty,(Builtin.clear_ #[293] ty #[.slice (some ⟨g,kk * 3,none⟩) (n - kk) (c - kk)]).run Tryz.prog wr=.ok (.tuple #[]) (wr.setCells g (kk * 3) (Builtin.zeroCells (Value.agg #[.slice none 0 0,.bool false,.string ⟨#[]⟩]).cells (n - kk)).toList))∧True:=by
        refine⟨fun ty=>?_,trivial⟩
        exact (run_clear_x wr 293 296 ty (.agg #[.slice none 0 0,.bool false,.string ⟨#[]⟩]) 3 Tryz.underlying293 Tryz.zeroValue296 rfl (by simp[Value.cells,Value.oneCell']) (by decide) g (kk * 3) (n - kk) (c - kk) (by omega) (fun j hj=>by
         have hjk:kk+j / 3 < n:=by omega
         have:=HRL.out.cell (kk+j / 3) _ (List.getElem?_eq_getElem (by rw[hLl.out];exact hjk)) (j % 3) _ (List.getElem?_eq_getElem (by rw[encH_len];omega))
         rw[show 0+(kk+j / 3) * 3+j % 3=kk * 3+j by omega] at this
         rw[this]
         rfl) (fun j hj=>HRL.out.free _)).1
       have hfin:Hid (CompEnd l 296 g c w (.returned (.slice (some ⟨g,0,none⟩) kk c)) (wr.setCells g (kk * 3) (Builtin.zeroCells (Value.agg #[.slice none 0 0,.bool false,.string ⟨#[]⟩]).cells (n - kk)).toList)):=by
        have hI:=HI.out
        rw[hend] at hI
        have hl2:(dedTo l l.length).length=kk:=by rw[HN.out];exact hI.len
        refine⟨by rw[hl2],⟨kind_setCells (w:=wr) _ _ _ HRL.out.kind,fun k x hk i u hu=>?_⟩,HG.out.trans (grown_setCells g (kk * 3) _)⟩
        have hkl:k < kk:=by rw[←hl2];exact (List.getElem?_eq_some_iff.1 hk).1
        have hi:i < 3:=(List.getElem?_eq_some_iff.1 hu).1
        rw[HN.out,hI.low k hkl] at hk
        rw[World.cell?_setCells_out g _ (kk * 3) wr ⟨g,0+k * 3+i,none⟩ (fun _ _=>.inl (by show 0+k * 3+i < kk * 3;omega))]
        exact HRL.out.cell k x hk i u hu
       generalize (Builtin.zeroCells (Value.agg #[.slice none 0 0,.bool false,.string ⟨#[]⟩]).cells (n - kk)).toList=zs at hcl hfin
       clear hend
       go_wp2
       go_ret
       exact hfin.out
   ·obtain rfl:J=n:=by omega
    have hE:=Lib.hid (HAll.out HK.out wr (calm_grown HC.out) (HR.out.calm HC.out))
    go_wp2
    go_ret
    exact hE.out
def otherIn (h o:NewP):Bool:=(patText o.p != patText h.p) && insideP h.p o.p
set_option maxHeartbeats 2000000 in
theorem hin_c (h o:NewP) (v:Bool) (Bh:Nat) (W:World) (hh:PatA W h.A h.c h.p) (ho:PatA W o.A o.c o.p) (hB:Bh < W.heap.size)
  (c0:W.cell? ⟨Bh,0,none⟩=some (.slice h.A h.p.parts.length h.c)) (c1:W.cell? ⟨Bh,1,none⟩=some (.bool h.p.rest)) (c2:W.cell? ⟨Bh,2,none⟩=some (.string (bs (patText h.p)))) (hv:otherIn h o=v) :
  Calls Tryz.prog 206 #[.agg #[.slice o.A o.p.parts.length o.c,.bool o.p.rest,.string (bs (patText o.p))],.pointer (some ⟨Bh,0,none⟩)] W fun e w'=>e=.returned (.bool v)∧Calm W w':=by
 obtain⟨w1,hw1⟩:∃w1,w1=W.alloc (.cells #[.slice o.A o.p.parts.length o.c,.bool o.p.rest,.string (bs (patText o.p))] 296):=⟨_,rfl⟩
 have hc1:Calm W w1:=by rw[hw1];exact (Calm.refl W).alloc _
 have hne:Bh≠W.heap.size:=by omega
 have k0:=hc1.at_ c0 hB
 have k1:=hc1.at_ c1 hB
 have k2:=hc1.at_ c2 hB
 have hin:=inside_c h.p o.p (insideP h.p o.p) h.p.parts.length o.p.parts.length h.c o.c h.p.rest o.p.rest h.A o.A w1 (hh.calm hc1) (ho.calm hc1) rfl rfl rfl rfl rfl
 have b0:w1.cell? ⟨W.heap.size,0,none⟩=some (.slice o.A o.p.parts.length o.c):=by rw[hw1];simp[go_sem]
 have b1:w1.cell? ⟨W.heap.size,1,none⟩=some (.bool o.p.rest):=by rw[hw1];simp[go_sem]
 have b2:w1.cell? ⟨W.heap.size,2,none⟩=some (.string (bs (patText o.p))):=by rw[hw1];simp[go_sem]
 unfold otherIn at hv
 have HC:=Lib.hid hc1
 have HW:=Lib.hid hw1
 clear hw1 hc1 hh ho k0 k1 k2 b0 b1 b2
 generalize insideP h.p o.p=r at hin hv
 generalize patText h.p=s at *
 generalize patText o.p=t at *
 generalize h.p.parts.length=hn at *
 generalize o.p.parts.length=on at *
 generalize h.p.rest=hre at *
 generalize o.p.rest=ore at *
 by_cases e:t=s
 ·subst e
  obtain rfl:false=v:=by simpa using hv
  clear hv hin
  go_enter Tryz.func206,Tryz.ntmps206
  go_wp2_with fail
  rw[←HW.out]
  go_ret
  exact⟨rfl,HC.out⟩
 ·have h1:(t == s)=false:=by simpa using e
  have h2:r=v:=by simpa[bne,h1] using hv
  subst h2
  clear hv e
  go_enter Tryz.func206,Tryz.ntmps206
  go_wp2_with (go_at_call 207;rw[←HW.out];refine hin.mono ?_;rintro e w2 ⟨rfl,hc2⟩)
  go_ret
  exact⟨rfl,HC.out.trans hc2⟩
def ixH (pr:NewP→Bool) (l:List NewP):Int:=if l.any pr then (l.findIdx pr:Int) else -1
theorem ixH_hit {pr:NewP→Bool} {l:List NewP} {k:Nat} {p:NewP} (hk:l[k]?=some p) (hp:pr p=true) (hall:∀(j:Nat) q,j < k→l[j]?=some q→pr q=false):ixH pr l=k:=by
 obtain⟨hlt,he⟩:=List.getElem?_eq_some_iff.1 hk
 have h1:l.any pr=true:=List.any_eq_true.2 ⟨p,List.mem_of_getElem? hk,hp⟩
 have h2:l.findIdx pr=k:=(List.findIdx_eq hlt).2 ⟨by rw[he];exact hp,fun j hj=>hall j _ hj (List.getElem?_eq_getElem (by omega))⟩
 rw[ixH,if_pos h1,h2]
theorem ixH_miss {pr:NewP→Bool} {l:List NewP} (hall:∀(j:Nat) q,j < l.length→l[j]?=some q→pr q=false):ixH pr l=-1:=by
 have h1:l.any pr=false:=by
  rw[List.any_eq_false]
  intro q hq
  obtain⟨j,hj,e⟩:=List.mem_iff_getElem.1 hq
  simp[hall j q hj (by rw[List.getElem?_eq_getElem hj,e])]
 rw[ixH,h1]
 rfl
theorem ixH_any (pr:NewP→Bool) (l:List NewP):decide (0≤ixH pr l)=l.any pr:=by
 unfold ixH
 cases l.any pr <;> simp
def PredH (f:Nat) (lb:Array Value) (pr:NewP→Bool) (l:List NewP) (w:World):Prop:=
 ∀(W:World),Calm w W→∀x∈l,Calls Tryz.prog f (#[.agg #[.slice x.A x.p.parts.length x.c,.bool x.p.rest,.string (bs (patText x.p))]]++lb) W fun e w'=>e=.returned (.bool (pr x))∧Calm W w'
set_option maxHeartbeats 1000000 in
theorem hidx_c (f:Nat) (lb:Array Value) (eg:∀args w,(callFunc f args).run Tryz.prog w=.ok (.enter f args) w) (pr:NewP→Bool) (l:List NewP) (g c:Nat) (w:World) (hr:RowX encH 3 296 w g 0 l) (hl:l.length≤1000000) (hp:PredH f lb pr l w) :
  Calls Tryz.prog 235 #[.slice (some ⟨g,0,none⟩) l.length c,.func (.func f) #[] lb] w fun e w'=>e=.returned (.int .i64 (ixH pr l))∧Calm w w':=by
 obtain⟨n,hn⟩:∃n,l.length=n:=⟨_,rfl⟩
 have Hn:=Lib.hid hn
 have HR:=Lib.hid hr
 have HP:=Lib.hid hp
 rw[hn] at hl
 rw[hn]
 clear hn hr hp
 go_enter Tryz.func235,Tryz.ntmps235
 go_wp2_with fail
 go_loopw [8] (fun i wr=>∃k:Nat,k≤n∧i=.int .i64 k∧Hid (∀(j:Nat) q,j < k→l[j]?=some q→pr q=false)∧Hid (Calm w wr)) (fun i _=>n - (intOf i).toNat)
 case atStart=>exact⟨0,Nat.zero_le _,rfl,fun j q hj=>absurd hj (Nat.not_lt_zero _),Calm.refl _⟩
 case round=>
  obtain⟨k,hk,rfl,HI,HC⟩:=hrel
  by_cases hlt:k < n
  ·obtain⟨x,hx⟩:∃x,l[k]?=some x:=⟨_,List.getElem?_eq_getElem (by rw[Hn.out];exact hlt)⟩
   obtain⟨c0,c1,c2⟩:=(HR.out.calm HC.out).at3 hx
   have hcall:=HP.out wr HC.out x (List.mem_of_getElem? hx)
   obtain⟨r,hr⟩:∃r,pr x=r:=⟨_,rfl⟩
   rw[hr] at hcall
   have HPr:=Lib.hid hr
   have HX:=Lib.hid hx
   clear hr hx
   cases r with
   |true=>
    go_wp2_with (go_at_fn f;refine hcall.mono ?_;rintro e w' ⟨rfl,hb'⟩)
    go_ret
    exact⟨ret_int (ixH_hit HX.out HPr.out HI.out).symm,HC.out.trans hb'⟩
   |false=>
    go_wp2_with (go_at_fn f;refine hcall.mono ?_;rintro e w' ⟨rfl,hb'⟩)
    go_roundw
    case rel=>
     refine⟨k+1,by omega,by go_num,fun j q hj hq=>?_,HC.out.trans hb'⟩
     by_cases e:j=k
     ·subst e
      rw[HX.out] at hq
      cases hq
      exact HPr.out
     ·exact HI.out j q (by omega) hq
    case measure=>simp[intOf];omega
  ·have hv:Hid (ixH pr l=-1):=ixH_miss fun j q hj hq=>HI.out j q (by rw[Hn.out] at hj;omega) hq
   go_wp2
   go_ret
   exact⟨ret_int hv.out.symm,HC.out⟩
set_option maxHeartbeats 400000 in
theorem hany_c (f:Nat) (lb:Array Value) (eg:∀args w,(callFunc f args).run Tryz.prog w=.ok (.enter f args) w) (pr:NewP→Bool) (l:List NewP) (g c:Nat) (w:World) (hr:RowX encH 3 296 w g 0 l) (hl:l.length≤1000000) (hp:PredH f lb pr l w) :
  Calls Tryz.prog 208 #[.slice (some ⟨g,0,none⟩) l.length c,.func (.func f) #[] lb] w fun e w'=>e=.returned (.bool (l.any pr))∧Calm w w':=by
 have h:=hidx_c f lb eg pr l g c w hr hl hp
 have e:=ixH_any pr l
 rw[←e]
 clear hr hp eg e
 generalize ixH pr l=r at h ⊢
 go_enter Tryz.func208,Tryz.ntmps208
 go_wp2_with (go_at_call 235;refine h.mono ?_;rintro e w' ⟨rfl,hb'⟩)
 go_ret
 exact⟨rfl,hb'⟩
theorem info_hole:(Tryz.prog.info? 296).map (fun i=>(i.zero,i.size,i.bytes))=some (some (.agg #[.slice none 0 0,.bool false,.string ByteArray.empty]),3,48):=by kernel_rfl
theorem step_append_h {ops:Array Oper} {o:Oper} {a:Act} {w:World} {K:Act→World→Prop} {Q:Exit→Act→World→Prop} {E:Prop}
  (hg:o.guard=none) (s x:Operand) (hop:o.op=Op.call { callee:=Callee.builtin Builtin.append,args:=#[s,x],argTypes:=#[293,293] })
  (w0:World) (v:Value) (l:List NewP) (hs:a.eval s=v) (hown:OwnX encH 3 296 w0 w v l) (n c:Nat) (hx:a.eval x=.slice (some ⟨n,0,none⟩) 1 c) (y:NewP)
  (hrd:∀(j:Nat) u,(encH y)[j]?=some u→w.cell? ⟨n,j,none⟩=some u) (hl:l.length≤1000000)
  (hK:∀v' w',OwnX encH 3 296 w0 w' v' (l++[y])→w.grownBy w' v.ownBlock→K (a.put o.dst v') w') :
  if Region.wanted o (yielded ops a.tmps)=true then Oper.wp Tryz.prog o a w K Q else E:=by
 have hw:Region.wanted o (yielded ops a.tmps)=true:=by simp[Region.wanted,hg]
 rw[if_pos hw]
 obtain⟨i0,hi0,hz0,hz1,hz2⟩:=info_parts info_hole
 obtain⟨v',w',hr,h2,h3⟩:=run_append_x (P:=Tryz.prog) (ty:=o.type) (c:=c) (x:=y) Tryz.underlying293 hi0 hz0 hz1 hz2 rfl (by decide) encH_len encH_one hown hrd hl (by decide)
 unfold Oper.wp
 simp[execOp,hop,resolve,invoke,builtin,hs,hx,Result.andThen]
 rw[hr]
 exact hK v' w' h2 h3
theorem new_h {w:World} {n:Nat} (y:NewP) (h:w.heap.size=n):∀(j:Nat) u,(encH y)[j]?=some u→(w.alloc (.cells #[.slice y.A y.p.parts.length y.c,.bool y.p.rest,.string (bs (patText y.p))] 296)).cell? ⟨n,j,none⟩=some u:=fun j u hj=>by
 subst h
 rw[cell_of_row _ w.heap.size j _ _ _ (heap_alloc_new w _)]
 simpa[encH] using hj
structure BoxG (w1:World) (B:Nat) (A:Option Addr) (n c:Nat) (re:Bool):Prop where
 size:B+2≤w1.heap.size
 x0:w1.cell? ⟨B,0,none⟩=some (.slice A n c)
 x1:w1.cell? ⟨B,1,none⟩=some (.bool re)
 z0:w1.cell? ⟨B+1,0,none⟩=some (.slice none 0 0)
 z1:w1.cell? ⟨B+1,1,none⟩=some (.bool false)
 z2:w1.cell? ⟨B+1,2,none⟩=some (.slice none 0 0)
 fz:∀o,w1.frozen? ⟨B+1,o,none⟩=false
theorem BoxG.calm {w1 w2:World} {B:Nat} {A:Option Addr} {n c:Nat} {re:Bool} (h:BoxG w1 B A n c re) (hc:Calm w1 w2):BoxG w2 B A n c re:=by
 have h0:B < w1.heap.size:=by have:=h.size;omega
 have h1:B+1 < w1.heap.size:=by have:=h.size;omega
 exact⟨Nat.le_trans h.size hc.size,hc.at_ h.x0 h0,hc.at_ h.x1 h0,hc.at_ h.z0 h1,hc.at_ h.z1 h1,hc.at_ h.z2 h1,fun o=>(hc.frozen (p:=⟨B+1,o,none⟩) h1).trans (h.fz o)⟩
structure HolesTo (w1 wr:World) (u:Value) (b:Pat) (ps:List Pat) (k:Nat) (l:List NewP):Prop where
 own:OwnX encH 3 296 w1 wr u l
 is:l.map (·.p)=meetsL b (ps.take k)
 each:∀x∈l,SmallN wr w1.heap.size x
theorem meetsL_take {b:Pat} {ps:List Pat} {k:Nat} {p:Pat} (h:ps[k]?=some p):meetsL b (ps.take (k+1))=meetsL b (ps.take k)++(meetP b p).toList:=by
 obtain⟨hlt,rfl⟩:=List.getElem?_eq_some_iff.1 h
 unfold meetsL
 rw[List.take_succ_eq_append_getElem hlt,List.filterMap_append]
 rcases hm:meetP b ps[k] with _ | m <;> simp[hm]
theorem HolesTo.len {w1 wr:World} {u:Value} {b:Pat} {ps:List Pat} {k:Nat} {l:List NewP} (h:HolesTo w1 wr u b ps k l):l.length≤ps.length:=by
 have h1:=congrArg List.length h.is
 rw[List.length_map] at h1
 have h2:=meetsL_len b (ps.take k)
 rw[List.length_take] at h2
 omega
theorem HolesTo.miss {w1 wr w2:World} {u:Value} {b:Pat} {ps:List Pat} {k:Nat} {l:List NewP} {p:Pat} (h:HolesTo w1 wr u b ps k l) (hp:ps[k]?=some p) (hm:meetP b p=none) (hc:Calm wr w2):HolesTo w1 w2 u b ps (k+1) l:=
 ⟨h.own.to hc,by rw[meetsL_take hp,hm,h.is];simp,fun x hx=>(h.each x hx).calm hc⟩
theorem HolesTo.hit {w1 wr w2 w3:World} {u v:Value} {b:Pat} {ps:List Pat} {k:Nat} {l:List NewP} {p:Pat} {y:NewP} (h:HolesTo w1 wr u b ps k l) (hp:ps[k]?=some p) (hm:meetP b p=some y.p) (hc:Calm wr w2) (hown:OwnX encH 3 296 w1 w3 v (l++[y])) (hy:SmallN w2 w1.heap.size y) (hg:w2.grownBy w3 u.ownBlock):HolesTo w1 w3 v b ps (k+1) (l++[y]):=by
 refine⟨hown,by rw[meetsL_take hp,hm,List.map_append,h.is];rfl,fun x hx=>?_⟩
 rcases List.mem_append.1 hx with hx | hx
 ·exact ((h.each x hx).calm hc).own (by decide) (h.own.to hc).own hg
 ·rw[List.mem_singleton.1 hx]
  exact hy.own (by decide) (h.own.to hc).own hg
def RedEnd (b:Pat) (hs:List Pat) (B:Nat) (e:Ending) (w':World):Prop:=∃A c HA hc,e=.returned (.agg #[.slice A b.parts.length c,.bool b.rest,.slice HA hs.length hc])∧NewS w' B A c b.parts∧PatsN w' B HA hc hs
theorem compf_none (c:Nat) (fv:Value) (w:World):Calls Tryz.prog 204 #[.slice none 0 c,fv] w fun e w'=>e=.returned (.slice none 0 c)∧w=w':=by
 go_enter Tryz.func204,Tryz.ntmps204
 go_wp2
 go_ret
 exact⟨rfl,rfl⟩
structure Holes2 (w1 wX:World) (HA:Option Addr) (m c:Nat) (cs:List NewP) (b:Pat) (ps:List Pat):Prop where
 calm:Calm w1 wX
 len:cs.length=m
 row:0 < m→∃g,HA=some ⟨g,0,none⟩∧w1.heap.size≤g∧RowX encH 3 296 wX g 0 cs
 each:∀x∈cs,SmallN wX w1.heap.size x
 red:(cs.map (·.p)).filter (keepT (cs.map (·.p)))=redL b ps
 few:m≤16384
theorem SmallN.row {w w':World} {B:Nat} {x:NewP} {g:Nat} {T:TypeId} (h:SmallN w B x) (hk:∃cs,w.heap[g]?=some (.cells cs T (0,0))) (hT:9≠T) (hg:w.grownBy w' (some g)):SmallN w' B x:=
 ⟨EachN.grown (l:=[x]) (fun y hy=>by rw[List.mem_singleton.1 hy];exact h.new) hk hT hg x (by simp),h.few,h.each⟩
theorem HolesTo.nil_ {w1 wr:World} {u:Value} {b:Pat} {ps:List Pat} {k:Nat} {l:List NewP} (h:HolesTo w1 wr u b ps k l) (hk:ps.length≤k) (hl:l=[]) (c:Nat):Holes2 w1 wr none 0 c [] b ps:=by
 have hm:meetsL b ps=[]:=by
  have:=h.is
  rw[List.take_of_length_le hk,hl] at this
  exact this.symm
 refine⟨h.own.calm,rfl,fun h0=>absurd h0 (Nat.lt_irrefl _),(fun x hx=>by cases hx),?_,Nat.zero_le _⟩
 unfold redL
 rw[hm]
 rfl
theorem HolesTo.of_ {w1 wr w4 w5:World} {u:Value} {b:Pat} {ps:List Pat} {k g c:Nat} {l l':List NewP} (h:HolesTo w1 wr u b ps k l) (hk:ps.length≤k) (hps:ps.length≤16384) (hg:w1.heap.size≤g) (hr:RowX encH 3 296 wr g 0 l)
  (hp:l'.Perm l) (hs:l'.Pairwise (fun x y=>leT x.p y.p)) (hr4:RowX encH 3 296 w4 g 0 l') (hg4:wr.grownBy w4 (some g)) (hr5:RowX encH 3 296 w5 g 0 (dedTo l' l'.length)) (hg5:w4.grownBy w5 (some g)) :
  Holes2 w1 w5 (some ⟨g,0,none⟩) (dedTo l' l'.length).length c (dedTo l' l'.length) b ps:=by
 have hgood:∀x∈l,patErr x.p=0:=fun x hx=>meetsL_good (b:=b) (ps:=ps.take k) _ (by rw[←h.is];exact List.mem_map.2 ⟨x,hx,rfl⟩)
 have hmem:∀x,x∈dedTo l' l'.length→x∈l:=fun x hx=>hp.mem_iff.1 (dedTo_sub (Nat.le_refl _) x hx)
 have hlen:(dedTo l' l'.length).length≤l'.length:=by
  unfold dedTo
  rw[List.length_map]
  have:=List.length_filter_le (keepsH l') (List.range l'.length)
  rw[List.length_range] at this
  exact this
 refine⟨grown_calm (grown_calm h.own.calm hg4 hg) hg5 hg,rfl,fun _=>⟨g,rfl,hg,hr5⟩,fun x hx=>?_,?_,?_⟩
 ·exact ((h.each x (hmem x hx)).row hr.kind (by decide) hg4).row hr4.kind (by decide) hg5
 ·refine redL_prog2 (fun x=>?_) (dedTo_strict hs)
  rw[dedTo_mem (fun x hx=>hgood x (hp.mem_iff.1 hx))]
  have:meetsL b ps=l.map (·.p):=by
   rw[h.is,List.take_of_length_le hk]
  rw[this]
  exact (hp.map _).mem_iff
 ·have h1:=h.len
  have h2:=hp.length_eq
  omega
theorem keepT_any (cs:List NewP) (x:NewP):keepT (cs.map (·.p)) x.p=!(cs.any (otherIn x)):=by
 unfold keepT otherIn
 rw[List.any_map]
 rfl
def keptTo (cs:List NewP) (k:Nat):List NewP:=(cs.take k).filter fun x=>!(cs.any (otherIn x))
theorem keptTo_succ {cs:List NewP} {k:Nat} {x:NewP} (h:cs[k]?=some x):keptTo cs (k+1)=keptTo cs k++(if cs.any (otherIn x) then [] else [x]):=by
 obtain⟨hlt,rfl⟩:=List.getElem?_eq_some_iff.1 h
 unfold keptTo
 rw[List.take_succ_eq_append_getElem hlt,List.filter_append]
 congr 1
 cases h2:cs.any (otherIn cs[k]) <;> simp[h2]
theorem keptTo_map (cs:List NewP):(keptTo cs cs.length).map (·.p)=(cs.map (·.p)).filter (keepT (cs.map (·.p))):=by
 unfold keptTo
 rw[List.take_length,List.filter_map]
 congr 1
 apply List.filter_congr
 intro x _
 exact (keepT_any cs x).symm
theorem keptTo_sub {cs:List NewP} {k:Nat}:∀x∈keptTo cs k,x∈cs:=fun x hx=>List.mem_of_mem_take (List.mem_filter.1 hx).1
theorem keptTo_len (cs:List NewP) (k:Nat):(keptTo cs k).length≤cs.length:=by
 have h1:=List.length_filter_le (fun x=>!(cs.any (otherIn x))) (cs.take k)
 have h2:=List.length_take_le k cs
 have h3:(cs.take k).length≤cs.length:=by rw[List.length_take];omega
 unfold keptTo
 omega
structure GTo (w0 wr:World) (Bg:Nat) (A2:Option Addr) (n c2:Nat) (re:Bool) (hv:Value) (hl:List NewP):Prop where
 own:OwnX encP 2 65 w0 wr hv hl
 ge:w0.heap.size≤Bg
 kind:∃cs,wr.heap[Bg]?=some (.cells cs 214 (0,0))
 c0:wr.cell? ⟨Bg,0,none⟩=some (.slice A2 n c2)
 c1:wr.cell? ⟨Bg,1,none⟩=some (.bool re)
 c2:wr.cell? ⟨Bg,2,none⟩=some hv
theorem GTo.lt {w0 wr:World} {Bg:Nat} {A2:Option Addr} {n c2:Nat} {re:Bool} {hv:Value} {hl:List NewP} (h:GTo w0 wr Bg A2 n c2 re hv hl):Bg < wr.heap.size:=by
 obtain⟨cs,hh⟩:=h.kind
 exact heap_lt hh
theorem GTo.calm {w0 wr w2:World} {Bg:Nat} {A2:Option Addr} {n c2:Nat} {re:Bool} {hv:Value} {hl:List NewP} (h:GTo w0 wr Bg A2 n c2 re hv hl) (hc:Calm wr w2):GTo w0 w2 Bg A2 n c2 re hv hl:=
 ⟨h.own.to hc,h.ge,by obtain⟨cs,hh⟩:=h.kind;exact⟨cs,(hc.block _ h.lt).trans hh⟩,Calm.at_ hc h.c0 h.lt,Calm.at_ hc h.c1 h.lt,Calm.at_ hc h.c2 h.lt⟩
theorem GTo.ne {w0 wr:World} {Bg:Nat} {A2:Option Addr} {n c2:Nat} {re:Bool} {hv:Value} {hl:List NewP} (h:GTo w0 wr Bg A2 n c2 re hv hl):some Bg≠hv.ownBlock:=fun e=>by
 obtain⟨cs,hh⟩:=h.kind
 rcases h.own.own.2 with⟨rfl,_⟩ | ⟨g,cap,cur,rfl,_,hgh,_⟩
 ·simp[Value.ownBlock] at e
 ·have e2:Bg=g:=by simpa[Value.ownBlock] using e
  rw[e2,hgh] at hh
  injection hh with hh
  injection hh with _ ht
  exact absurd ht (by decide)
theorem OwnX.set {α:Type} {enc:α→List Value} {K:Nat} {T:TypeId} {w0 w:World} {v:Value} {l:List α} (h:OwnX enc K T w0 w v l) {p:Addr} (u:Value) (hge:w0.heap.size≤p.block) (hne:some p.block≠v.ownBlock):OwnX enc K T w0 (w.setCell p u) v l:=by
 refine⟨Below.setCell h.calm hge _,h.own.1,?_⟩
 rcases h.own.2 with h2 | ⟨g,cap,cur,hv,hg,hh,r⟩
 ·exact .inl h2
 ·refine .inr ⟨g,cap,cur,hv,hg,?_,r⟩
  rw[Deep.blk_setCell_other _ _ _ _ (fun e=>hne (by rw[←e,hv];rfl))]
  exact hh
theorem GTo.put {w0 wr w2 w3:World} {Bg:Nat} {A2:Option Addr} {n c2:Nat} {re:Bool} {hv v:Value} {hl hl':List NewP} (h:GTo w0 wr Bg A2 n c2 re hv hl) (hc:Calm wr w2) (hown:OwnX encP 2 65 w0 w3 v hl') (hg:w2.grownBy w3 hv.ownBlock):GTo w0 (w3.setCell ⟨Bg,2,none⟩ v) Bg A2 n c2 re v hl':=by
 have h2:=h.calm hc
 have hb:=hg.block Bg h2.lt h2.ne
 have hk3:∃cs,w3.heap[Bg]?=some (.cells cs 214 (0,0)):=by
  obtain⟨cs,hh⟩:=h2.kind
  exact⟨cs,hb.trans hh⟩
 have hne:some Bg≠v.ownBlock:=fun e=>by
  obtain⟨cs,hh⟩:=hk3
  rcases hown.own.2 with⟨rfl,_⟩ | ⟨g,cap,cur,rfl,_,hgh,_⟩
  ·simp[Value.ownBlock] at e
  ·have e2:Bg=g:=by simpa[Value.ownBlock] using e
   rw[e2,hgh] at hh
   injection hh with hh
   injection hh with _ ht
   exact absurd ht (by decide)
 have c3:∀o,w3.cell? ⟨Bg,o,none⟩=w2.cell? ⟨Bg,o,none⟩:=fun o=>World.cell?_of_block (a:=⟨Bg,o,none⟩) hb
 refine⟨hown.set (p:=⟨Bg,2,none⟩) v h.ge hne,h.ge,?_,?_,?_,?_⟩
 ·obtain⟨cs,hh⟩:=hk3
  exact⟨cs.setIfInBounds 2 v,by simp[World.setCell,Array.getElem?_modify,hh]⟩
 ·exact (World.cell?_setCell_other _ _ _ _ (by simp)).trans ((c3 0).trans h2.c0)
 ·exact (World.cell?_setCell_other _ _ _ _ (by simp)).trans ((c3 1).trans h2.c1)
 ·exact World.cell?_setCell_same' _ _ _ (by rw[c3 2,h2.c2];rfl)
theorem GTo.after {w0 wr w2 w3:World} {Bg:Nat} {A2:Option Addr} {n c2:Nat} {re:Bool} {hv:Value} {hl:List NewP} (h:GTo w0 wr Bg A2 n c2 re hv hl) (hc:Calm wr w2) (hg:w2.grownBy w3 hv.ownBlock):w3.cell? ⟨Bg,2,none⟩=some hv∧w3.frozen? ⟨Bg,2,none⟩=false:=by
 have h2:=h.calm hc
 have hb:=hg.block Bg h2.lt h2.ne
 refine⟨(World.cell?_of_block (a:=⟨Bg,2,none⟩) hb).trans h2.c2,(World.frozen?_of_block (a:=⟨Bg,2,none⟩) hb).trans ?_⟩
 obtain⟨cs,hh⟩:=h2.kind
 exact frozen_of_row w2 _ _ cs _ hh
theorem step_append_p {ops:Array Oper} {o:Oper} {a:Act} {w:World} {K:Act→World→Prop} {Q:Exit→Act→World→Prop} {E:Prop}
  (hg:o.guard=none) (s x:Operand) (hop:o.op=Op.call { callee:=Callee.builtin Builtin.append,args:=#[s,x],argTypes:=#[212,212] })
  (w0:World) (v:Value) (l:List NewP) (hs:a.eval s=v) (hown:OwnX encP 2 65 w0 w v l) (n c:Nat) (hx:a.eval x=.slice (some ⟨n,0,none⟩) 1 c) (y:NewP)
  (hrd:∀(j:Nat) u,(encP y)[j]?=some u→w.cell? ⟨n,j,none⟩=some u) (hl:l.length≤1000000)
  (hK:∀v' w',OwnX encP 2 65 w0 w' v' (l++[y])→w.grownBy w' v.ownBlock→K (a.put o.dst v') w') :
  if Region.wanted o (yielded ops a.tmps)=true then Oper.wp Tryz.prog o a w K Q else E:=by
 have hw:Region.wanted o (yielded ops a.tmps)=true:=by simp[Region.wanted,hg]
 rw[if_pos hw]
 obtain⟨i0,hi0,hz0,hz1,hz2⟩:=info_parts info_patE
 obtain⟨v',w',hr,h2,h3⟩:=run_append_x (P:=Tryz.prog) (ty:=o.type) (c:=c) (x:=y) Tryz.underlying212 hi0 hz0 hz1 hz2 rfl (by decide) encP_len encP_one hown hrd hl (by decide)
 unfold Oper.wp
 simp[execOp,hop,resolve,invoke,builtin,hs,hx,Result.andThen]
 rw[hr]
 exact hK v' w' h2 h3
theorem new_p {w:World} {n:Nat} (y:NewP) (h:w.heap.size=n):∀(j:Nat) u,(encP y)[j]?=some u→(w.alloc (.cells #[.slice y.A y.p.parts.length y.c,.bool y.p.rest] 65)).cell? ⟨n,j,none⟩=some u:=fun j u hj=>by
 subst h
 rw[cell_of_row _ w.heap.size j _ _ _ (heap_alloc_new w _)]
 simpa[encP] using hj
theorem new_pd {w w':World} {n:Nat} (y:NewP) (h:w.heap.size=n) (hc:Calm (w.alloc (.cells #[.slice y.A y.p.parts.length y.c,.bool y.p.rest] 65)) w'):∀(j:Nat) u,(encP y)[j]?=some u→w'.cell? ⟨n,j,none⟩=some u:=fun j u hj=>
 Calm.at_ hc (new_p y h j u hj) (by rw[←h];simp[go_sem])
theorem red_done {w1 wX w6 wr:World} {B mm cH n c c2:Nat} {HA A A2:Option Addr} {re:Bool} {hv:Value} {cs:List NewP} {b:Pat} {ps:List Pat} (hG:GTo w6 wr w6.heap.size A2 n c2 re hv (keptTo cs mm)) (H2:Holes2 w1 wX HA mm cH cs b ps) (hX6:Calm wX w6) (hN6:NewS w6 wX.heap.size A2 c2 b.parts) (hbox:BoxG w1 B A n c re) (hn:b.parts.length=n) (hre:b.rest=re) (u0 u1 u2:Value) :
  RedEnd b (redL b ps) B (.returned (.agg #[.slice A2 n c2,.bool re,hv])) (((wr.setCell ⟨B+1,0,none⟩ u0).setCell ⟨B+1,1,none⟩ u1).setCell ⟨B+1,2,none⟩ u2):=by
 have hmap:(keptTo cs mm).map (·.p)=redL b ps:=by
  have:=keptTo_map cs
  rw[H2.len] at this
  rw[this,H2.red]
 have hlen:(keptTo cs mm).length=(redL b ps).length:=by rw[←hmap,List.length_map]
 have hw1:B+2≤w1.heap.size:=hbox.size
 have hwX:w1.heap.size≤wX.heap.size:=H2.calm.size
 have h6r:=hG.own.calm
 have hnew:NewS (((wr.setCell ⟨B+1,0,none⟩ u0).setCell ⟨B+1,1,none⟩ u1).setCell ⟨B+1,2,none⟩ u2) wX.heap.size A2 c2 b.parts:=
  (((hN6.calm h6r).set (p:=⟨B+1,0,none⟩) u0 (by show B+1 < _;omega)).set (p:=⟨B+1,1,none⟩) u1 (by show B+1 < _;omega)).set (p:=⟨B+1,2,none⟩) u2 (by show B+1 < _;omega)
 have heach:∀x∈keptTo cs mm,SmallN (((wr.setCell ⟨B+1,0,none⟩ u0).setCell ⟨B+1,1,none⟩ u1).setCell ⟨B+1,2,none⟩ u2) B x:=fun x hx=>
  ((((((H2.each x (keptTo_sub x hx)).calm (hX6.trans h6r)).set (p:=⟨B+1,0,none⟩) u0 (by show B+1 < _;omega)).set (p:=⟨B+1,1,none⟩) u1 (by show B+1 < _;omega)).set (p:=⟨B+1,2,none⟩) u2 (by show B+1 < _;omega))).mono (by omega)
 rcases hG.own.row encP_len with⟨rfl,h0⟩ | ⟨g,hc,rfl,hlc,hcc,hgg,hrow⟩
 ·have hr0:redL b ps=[]:=by rw[←hmap,h0];rfl
  refine⟨A2,c2,none,0,by rw[hn,hre,hr0];rfl,hnew.mono (by omega),⟨[],by rw[hr0];rfl,.inl ⟨rfl,hr0⟩,fun x hx=>by cases hx⟩,by rw[hr0];exact Nat.le_refl _,by omega⟩
 ·have hgB:g≠B+1:=by have:=hX6.size;omega
  refine⟨A2,c2,some ⟨g,0,none⟩,hc,by rw[hn,hre,←hlen],hnew.mono (by omega),⟨keptTo cs mm,hmap,.inr ⟨g,rfl,by have:=hX6.size;omega,?_⟩,heach⟩,by rw[←hlen];exact hlc,hcc⟩
  refine hrow.of_block ?_
  rw[Deep.blk_setCell_other _ _ _ _ hgB,Deep.blk_setCell_other _ _ _ _ hgB,Deep.blk_setCell_other _ _ _ _ hgB]
set_option maxRecDepth 100000 in
set_option maxHeartbeats 16000000 in
theorem reduce_c (b:Pat) (ps:List Pat) (A:Option Addr) (c:Nat) (PA:Option Addr) (N pc:Nat) (w:World) (hb:PatA w A c b) (hps:PatsR w PA ps) (hN:ps.length=N) (gb:patErr b=0) (gp:∀p∈ps,patErr p=0) :
  Calls Tryz.prog 169 #[.agg #[.slice A b.parts.length c,.bool b.rest],.slice PA N pc] w fun e w'=>RedEnd b (redL b ps) w.heap.size e w'∧Calm w w':=by
 obtain⟨n,hn⟩:∃n,b.parts.length=n:=⟨_,rfl⟩
 obtain⟨re,hre⟩:∃re,b.rest=re:=⟨_,rfl⟩
 have hNl:=hps.len
 rw[hN] at hNl
 obtain⟨w1,hw1⟩:∃w1,w1=(w.alloc (.cells #[.slice A n c,.bool re] 65)).alloc (.cells #[.slice none 0 0,.bool false,.slice none 0 0] 214):=⟨_,rfl⟩
 have hc1:Calm w w1:=by rw[hw1];exact ((Calm.refl w).alloc _).alloc _
 have hbox:BoxG w1 w.heap.size A n c re:=by
  rw[hw1]
  exact⟨by simp,by simp[go_sem],by simp[go_sem],by simp[go_sem],by simp[go_sem],by simp[go_sem],fun o=>by simp[go_sem]⟩
 have HW:=Lib.hid hw1
 have HC:=Lib.hid hc1
 have HB:=Lib.hid hbox
 have HN:=Lib.hid (And.intro hn (And.intro hre hN))
 have HBa:=Lib.hid (hb.calm hc1)
 have HPs:=Lib.hid (hps.calm hc1)
 have HG:=Lib.hid (And.intro gb gp)
 rw[hn,hre]
 clear hw1 hc1 hbox hn hre hN hb hps gb gp
 go_enter Tryz.func169,Tryz.ntmps169
 go_wp2_with fail
 rw[←HW.out]
 go_loopw [5,16] (fun u q wr=>∃(k:Nat) (l:List NewP),k≤N∧q=.int .i64 k∧Hid (HolesTo w1 wr u b ps k l)) (fun _ q _=>N - (intOf q).toNat)
 case atStart=>exact⟨0,[],Nat.zero_le _,rfl,⟨OwnX.nil (Calm.refl _),rfl,fun x hx=>by cases hx⟩⟩
 case round=>
  obtain⟨k,l,hk,rfl,HL⟩:=hrel
  have hcr:=HL.out.own.calm
  have HBr:=Lib.hid (HB.out.calm hcr)
  have hll:=HL.out.len
  rw[HN.out.2.2] at hll
  by_cases hlt:k < N
  ·obtain⟨bb,o,p,Ak,ck,rfl,hbb,hp,q1,q2,q3,q4,q5⟩:=(HPs.out.calm hcr).get (k:=k) (by rw[HN.out.2.2];exact hlt)
   have gp:=HG.out.2 p (List.mem_of_getElem? hp)
   obtain⟨wB,hwB⟩:∃wB,wB=wr.alloc (.cells #[.slice Ak p.parts.length ck,.bool p.rest] 65):=⟨_,rfl⟩
   have hcB:Calm wr wB:=by rw[hwB];exact (Calm.refl wr).alloc _
   have hPA:PatA wB Ak ck p:=⟨q5.calm hcB,q3,by omega⟩
   have hBA:PatA wB A c b:=HBa.out.calm (hcr.trans hcB)
   have x0:=HBr.out.x0
   have x1:=HBr.out.x1
   have hlt0:w.heap.size < wr.heap.size:=by have:=HBr.out.size;omega
   have HWB:=Lib.hid hwB
   have HCB:=Lib.hid hcB
   have HP:=Lib.hid hp
   rcases hm:meetP b p with _ | m
   ·have hcall:=meet_no b p A Ak c ck wB hBA hPA HG.out.1 gp hm
    rw[HN.out.1,HN.out.2.1] at hcall
    have HM:=Lib.hid hm
    clear hwB hcB hPA hBA hp q5 gp hm hcr
    go_wp2_with (go_at_call 168;rw[←HWB.out];refine hcall.mono ?_;rintro e w3 ⟨rfl,hc3⟩)
    go_roundw
    case rel=>exact⟨k+1,l,by omega,by go_num,HL.out.miss HP.out HM.out (HCB.out.trans (hc3.trans ((Calm.refl _).alloc _)))⟩
    case measure=>simp[intOf];omega
   ·have hcall:=meet_yes b p m A Ak c ck wB hBA hPA HG.out.1 gp hm
    rw[HN.out.1,HN.out.2.1] at hcall
    have HM:=Lib.hid hm
    have hm0:0 < m.parts.length:=(patErr_iff.1 (meetP_some hm).2.2.2).1
    clear hwB hcB hPA hBA hp q5 gp hm hcr
    go_wp2_with (go_at_call 168;rw[←HWB.out];refine hcall.mono ?_;rintro e w3 ⟨⟨A3,c3,rfl,hs3⟩,hc3⟩)
    obtain⟨wC,hwC⟩:∃wC,wC=w3.alloc (.cells #[.slice A3 m.parts.length c3,.bool m.rest] 65):=⟨_,rfl⟩
    rw[←hwC]
    have hcC:Calm w3 wC:=by rw[hwC];exact (Calm.refl w3).alloc _
    have t0:wC.cell? ⟨w3.heap.size,0,none⟩=some (.slice A3 m.parts.length c3):=by rw[hwC];simp[go_sem]
    have t1:wC.cell? ⟨w3.heap.size,1,none⟩=some (.bool m.rest):=by rw[hwC];simp[go_sem]
    have tlt:w3.heap.size < wC.heap.size:=by rw[hwC];simp[go_sem]
    have HSm:=Lib.hid ((hs3.calm hcC).mono (Nat.le_trans HL.out.own.calm.size HCB.out.size))
    have HO:=Lib.hid (HL.out.own.to (HCB.out.trans (hc3.trans hcC)))
    have HCC:=Lib.hid (HCB.out.trans (hc3.trans hcC))
    have KT:Hid (∀W,Calm wC W→Calls Tryz.prog 201 #[.agg #[.slice A3 m.parts.length c3,.bool m.rest]] W fun e w'=>e=.returned (.string (bs (patText m)))∧Calm W w'):=fun W hW=>text_c m m.parts.length c3 m.rest A3 W ((HSm.out.calm hW).a) hm0 rfl rfl
    have HT:=Lib.hid (And.intro t0 (And.intro t1 tlt))
    have HFs:=Lib.hid (Nat.le_trans HCB.out.size hc3.size)
    clear hwC hcC hs3 hc3 t0 t1 x0 x1 hlt0 q1 q2 q3 q4 tlt
    have hfar:some w3.heap.size≠u5.ownBlock:=fun e=>by
     have h1:=HL.out.own.blk_lt e
     have h2:=HFs.out
     omega
    have HFar:=Lib.hid hfar
    clear hfar
    go_wp2_with fail
    go_region_held3 (fun w'=>w'.cell? ⟨w3.heap.size,0,none⟩=some (.slice A3 m.parts.length c3)∧w'.cell? ⟨w3.heap.size,1,none⟩=some (.bool m.rest))
     (first
      |exact⟨Calm.at_ (Below.drew (Calm.refl wC)) HT.out.1 HT.out.2.2,Calm.at_ (Below.drew (Calm.refl wC)) HT.out.2.1 HT.out.2.2⟩
      |exact⟨hcx.at_ HT.out.1 HT.out.2.2,hcx.at_ HT.out.2.1 HT.out.2.2⟩
      |exact⟨Calm.at_ (hcx.alloc _) HT.out.1 HT.out.2.2,Calm.at_ (hcx.alloc _) HT.out.2.1 HT.out.2.2⟩
      |exact⟨(hgr6.cell_far ⟨w3.heap.size,0,none⟩ (Nat.lt_of_lt_of_le HT.out.2.2 (hcx.alloc _).size) HFar.out).trans (Calm.at_ (hcx.alloc _) HT.out.1 HT.out.2.2),(hgr6.cell_far ⟨w3.heap.size,1,none⟩ (Nat.lt_of_lt_of_le HT.out.2.2 (hcx.alloc _).size) HFar.out).trans (Calm.at_ (hcx.alloc _) HT.out.2.1 HT.out.2.2)⟩
      |go_keep)
     (first
      |(go_at_call 201;refine (KT.out _ (Below.drew (Calm.refl _))).mono ?_;rintro e w5 ⟨rfl,hc5⟩;have hcx:Calm wC w5:=Calm.trans (Below.drew (Calm.refl _)) hc5)
      |(refine step_append_h rfl (.tmp 27) (.tmp 32) rfl w1 u5 l (by simp[Act.eval,Act.put]) (HO.out.to (hcx.alloc _)) _ 1 rfl ⟨A3,c3,m⟩ (new_h ⟨A3,c3,m⟩ rfl) (by omega) ?_;intro v6 w6 hown6 hgr6))
    all_goals
     have HH:=Lib.hid (HL.out.hit HP.out HM.out (HCC.out.trans (hcx.alloc _)) hown6 (HSm.out.calm (hcx.alloc _)) hgr6)
     clear hown6 hgr6 hcx hc5
     try simp only[List.getElem_toArray,List.getElem_cons_succ,List.getElem_cons_zero,Act.put,List.setIfInBounds_toArray,List.set_cons_succ,List.set_cons_zero]
     go_wp2
     go_roundw
     case rel=>exact⟨k+1,_,by omega,by go_num,HH.out⟩
     case measure=>simp[intOf];omega
  ·obtain rfl:k=N:=by omega
   have hNk:ps.length≤k:=by rw[HN.out.2.2];exact Nat.le_refl _
   have HNk:=Lib.hid hNk
   have key:(u5=.slice none 0 0∧l=[])∨∃g c5,u5=.slice (some ⟨g,0,none⟩) l.length c5∧l.length≤c5∧c5≤9223372036854775807∧w1.heap.size≤g∧RowX encH 3 296 wr g 0 l:=HL.out.own.row encH_len
   clear hNk hcr
   have KCp:Hid (∀W,Calm w1 W→Calls Tryz.prog 177 #[.agg #[.slice A n c,.bool re]] W fun e w'=>(∃A2 c2,e=.returned (.agg #[.slice A2 n c2,.bool re])∧NewS w' W.heap.size A2 c2 b.parts)∧Calm W w'):=fun W hW=>by
    have:=copy_c b A c W (HBa.out.calm hW).r.toU
    unfold CopyEnd at this
    rw[HN.out.1,HN.out.2.1] at this
    exact this
   rcases key with⟨rfl,hl0⟩ | ⟨g,c5,rfl,hlc,hcc,hgg,hrow⟩
   ·obtain⟨HAo,eA⟩:∃x:Option Addr,x=none:=⟨_,rfl⟩
    obtain⟨mm,em⟩:∃x:Nat,x=0:=⟨_,rfl⟩
    obtain⟨cH,eC⟩:∃x:Nat,x=0:=⟨_,rfl⟩
    obtain⟨cs,es⟩:∃x:List NewP,x=[]:=⟨_,rfl⟩
    have H2:Hid (Holes2 w1 wr HAo mm cH cs b ps):=by
     show Holes2 w1 wr HAo mm cH cs b ps
     rw[eA,em,eC,es]
     exact HL.out.nil_ HNk.out hl0 0
    have KCo:Hid (∀fv W,Calls Tryz.prog 204 #[.slice none 0 0,fv] W fun e w'=>e=.returned (.slice HAo mm cH)∧W=w'):=fun fv W=>by
     rw[eA,em,eC]
     exact compf_none 0 fv W
    clear hl0 eA em eC es
    go_wp2_with (first
     |(go_at_call 202;refine (sort_none _ _ _).mono ?_;rintro e w4 ⟨rfl,rfl⟩)
     |(go_at_call 204;refine (KCo.out _ _).mono ?_;rintro e w5 ⟨rfl,rfl⟩;have x0:=(HB.out.calm H2.out.calm).x0;have x1:=(HB.out.calm H2.out.calm).x1))
    refine (KCp.out wr H2.out.calm).mono ?_
    rintro e w6 ⟨⟨A2,c2,rfl,hn6⟩,hc6⟩
    clear x0 x1
    obtain⟨w8,hw8⟩:∃w8,w8=w6.alloc (.cells #[.slice A2 n c2,.bool re,.slice none 0 0] 214):=⟨_,rfl⟩
    have hc8:Calm w6 w8:=by rw[hw8];exact (Calm.refl w6).alloc _
    have HG0:Hid (GTo w6 w8 w6.heap.size A2 n c2 re (.slice none 0 0) []):=⟨OwnX.nil hc8,Nat.le_refl _,by rw[hw8];exact⟨_,heap_alloc_new w6 _⟩,by rw[hw8];simp[go_sem],by rw[hw8];simp[go_sem],by rw[hw8];simp[go_sem]⟩
    have HX6:Hid (Calm wr w6):=hc6
    have HN6:=Lib.hid hn6
    have HW8:=Lib.hid hw8
    have hmm:=H2.out.few
    clear hw8 hc8 hn6 hc6
    go_wp2_with fail
    rw[←HW8.out]
    go_loopw [44] (fun u wr=>∃(k2:Nat) (Av:Option Addr) (nv cv:Nat),k2≤mm∧u=.int .i64 k2∧Hid (GTo w6 wr w6.heap.size A2 n c2 re (.slice Av nv cv) (keptTo cs k2))) (fun u _=>mm - (intOf u).toNat)
    case atStart=>exact⟨0,_,_,_,Nat.zero_le _,rfl,HG0.out⟩
    case round=>
     obtain⟨k2,Av,nv,cv,hk2,rfl,HGk⟩:=hrel
     have HCq:Hid (Calm w6 wr):=HGk.out.own.calm
     by_cases hlt2:k2 < mm
     ·obtain⟨g2,rfl,hg2,hrow2⟩:=H2.out.row (by omega)
      have hrq:=hrow2.calm (HX6.out.trans HCq.out)
      obtain⟨x,hx⟩:∃x,cs[k2]?=some x:=⟨_,List.getElem?_eq_getElem (by rw[H2.out.len];exact hlt2)⟩
      obtain⟨c0,c1,c2'⟩:=hrq.at3 hx
      obtain⟨wB,hwB⟩:∃wB,wB=wr.alloc (.cells #[.slice x.A x.p.parts.length x.c,.bool x.p.rest,.string (bs (patText x.p))] 296):=⟨_,rfl⟩
      have hcB:Calm wr wB:=by rw[hwB];exact (Calm.refl wr).alloc _
      have b0:wB.cell? ⟨wr.heap.size,0,none⟩=some (.slice x.A x.p.parts.length x.c):=by rw[hwB];simp[go_sem]
      have b1:wB.cell? ⟨wr.heap.size,1,none⟩=some (.bool x.p.rest):=by rw[hwB];simp[go_sem]
      have b2:wB.cell? ⟨wr.heap.size,2,none⟩=some (.string (bs (patText x.p))):=by rw[hwB];simp[go_sem]
      have blt:wr.heap.size < wB.heap.size:=by rw[hwB];simp[go_sem]
      have eg:∀args w,(callFunc 206 args).run Tryz.prog w=.ok (.enter 206 args) w:=enters_of Tryz.func206 (by kernel_rfl) rfl
      have heach:∀y∈cs,∀W,Calm wB W→PatA W y.A y.c y.p:=fun y hy W hW=>((H2.out.each y hy).calm (HX6.out.trans (HCq.out.trans (hcB.trans hW)))).a
      have hpred:PredH 206 #[.pointer (some ⟨wr.heap.size,0,none⟩)] (otherIn x) cs wB:=fun W hW y hy=>
       hin_c x y (otherIn x y) wr.heap.size W (heach x (List.mem_of_getElem? hx) W hW) (heach y hy W hW) (Nat.lt_of_lt_of_le blt hW.size) (Calm.at_ hW b0 blt) (Calm.at_ hW b1 blt) (Calm.at_ hW b2 blt) rfl
      obtain⟨y,hy⟩:∃y,cs.any (otherIn x)=y:=⟨_,rfl⟩
      have hany:=hany_c 206 #[.pointer (some ⟨wr.heap.size,0,none⟩)] eg (otherIn x) cs g2 cH wB (hrq.calm hcB) (by rw[H2.out.len];omega) hpred
      rw[hy,H2.out.len] at hany
      have HWB:=Lib.hid hwB
      have HCB:=Lib.hid hcB
      have HX:=Lib.hid hx
      have HY:=Lib.hid hy
      have HRq:=Lib.hid hrq
      clear hwB hcB b0 b1 b2 blt heach hpred hx hy hrq hrow2
      cases y with
      |true=>
       go_wp2_with (go_at_call 208;rw[←HWB.out];refine hany.mono ?_;rintro e w9 ⟨rfl,hc9⟩)
       have HG9:Hid (GTo w6 w9 w6.heap.size A2 n c2 re (.slice Av nv cv) (keptTo cs (k2+1))):=by
        have h9:=HGk.out.calm (HCB.out.trans hc9)
        have e9:keptTo cs (k2+1)=keptTo cs k2:=by rw[keptTo_succ HX.out,HY.out];simp
        rw[←e9] at h9
        exact h9
       clear hc9
       go_roundw
       case rel=>exact⟨k2+1,_,_,_,by omega,by go_num,HG9.out⟩
       case measure=>simp[intOf];omega
      |false=>
       go_wp2_with (go_at_call 208;rw[←HWB.out];refine hany.mono ?_;rintro e w9 ⟨rfl,hc9⟩)
       have HC9:=Lib.hid (HCB.out.trans hc9)
       have HG9:=Lib.hid (HGk.out.calm HC9.out)
       obtain⟨d0,d1,d2⟩:=(HRq.out.calm HC9.out).at3 HX.out
       have z2:=HG9.out.c2
       have hb6:=HG9.out.lt
       have hkl:(keptTo cs k2).length≤1000000:=by
        have h1:=keptTo_len cs k2
        rw[H2.out.len] at h1
        omega
       have e9:Hid (keptTo cs (k2+1)=keptTo cs k2++[x]):=by
        show keptTo cs (k2+1)=_
        rw[keptTo_succ HX.out,HY.out]
        simp
       clear hc9
       go_wp2_with fail
       go_region_law ((refine step_append_p rfl (.tmp 55) (.tmp 61) rfl w6 (.slice Av nv cv) (keptTo cs k2) (by simp[Act.eval,Act.put]) (HG9.out.own.to (by first | exact Calm.refl _ | exact (Calm.refl _).drewN _ | exact (Calm.refl _).alloc _ | exact ((Calm.refl _).drewN _).alloc _ | exact ((Calm.refl _).alloc _).drewN _)) _ 1 rfl x (by first | exact new_p x rfl | exact new_pd x rfl ((Calm.refl _).drewN _) | exact new_pd x rfl (Calm.refl _)) hkl ?_;intro v10 w10 hown10 hgr10;obtain⟨A10,n10,c10,hv10⟩:=hown10.shape;subst hv10;obtain⟨s2,sf⟩:=HG9.out.after (by first | exact Calm.refl _ | exact (Calm.refl _).drewN _ | exact (Calm.refl _).alloc _ | exact ((Calm.refl _).drewN _).alloc _ | exact ((Calm.refl _).alloc _).drewN _) hgr10;have HP:=Lib.hid (HG9.out.put (by first | exact Calm.refl _ | exact (Calm.refl _).drewN _ | exact (Calm.refl _).alloc _ | exact ((Calm.refl _).drewN _).alloc _ | exact ((Calm.refl _).alloc _).drewN _) hown10 hgr10)))
       all_goals
        rw[←e9.out] at HP
        clear hown10 hgr10 s2 sf d0 d1 d2 z2
        try simp only[List.getElem_toArray,List.getElem_cons_succ,List.getElem_cons_zero,Act.put,List.setIfInBounds_toArray,List.set_cons_succ,List.set_cons_zero]
        go_wp2
        go_roundw
        case rel=>exact⟨k2+1,_,_,_,by omega,by go_num,HP.out⟩
        case measure=>simp[intOf];omega
     ·obtain rfl:k2=mm:=by omega
      have hbr:=HB.out.calm (H2.out.calm.trans (HX6.out.trans HCq.out))
      have z0:=hbr.z0
      have z1:=hbr.z1
      have z2:=hbr.z2
      have f0:=hbr.fz 0
      have f1:=hbr.fz 1
      have f2:=hbr.fz 2
      have c0:=HGk.out.c0
      have c1:=HGk.out.c1
      have c2':=HGk.out.c2
      have hD:=fun (u0 u1 u2:Value)=>Lib.hid (red_done HGk.out H2.out HX6.out HN6.out HB.out HN.out.1 HN.out.2.1 u0 u1 u2)
      have hcF:=fun (u0 u1 u2:Value)=>Lib.hid (show Calm w (((wr.setCell ⟨w.heap.size+1,0,none⟩ u0).setCell ⟨w.heap.size+1,1,none⟩ u1).setCell ⟨w.heap.size+1,2,none⟩ u2) from Below.setCell (Below.setCell (Below.setCell (HC.out.trans (H2.out.calm.trans (HX6.out.trans HCq.out))) (by show w.heap.size≤w.heap.size+1;omega) _) (by show w.heap.size≤w.heap.size+1;omega) _) (by show w.heap.size≤w.heap.size+1;omega) _)
      clear hbr
      go_wp2
      refine bodyPost_ret (v:=.agg #[.slice A2 n c2,.bool re,.slice Av nv cv]) ?_ rfl ⟨(hD _ _ _).out,(hcF _ _ _).out⟩
      rw[results_cell1 rfl]
      go_simp
   ·have hll6:l.length≤1000000:=by omega
    have hsort:=sort_c l g c5 wr hrow hll6
    have KCo:Hid (∀l' W,l'.Perm l→RowX encH 3 296 W g 0 l'→Calls Tryz.prog 204 #[.slice (some ⟨g,0,none⟩) l.length c5,.func (.func 205) #[] #[]] W fun e w'=>CompEnd l' 296 g c5 W e w'):=fun l' W hp hr'=>by
     have hl':=hp.length_eq
     have:=compf_c 205 (enters_of Tryz.func205 (by kernel_rfl) rfl) (fun x y v W hv=>heq_c x y v W hv) l' g c5 W hr' (by rw[hl'];exact hll6) (by rw[hl'];exact hlc) hcc
     rw[hl'] at this
     exact this
    have HRow:=Lib.hid (And.intro hgg hrow)
    clear hrow hlc hcc hgg
    go_wp2_with fail
    refine hsort.mono ?_
    rintro e w4 ⟨rfl,hS⟩
    obtain⟨l',hp,hs,hr4,hg4⟩:=hS
    have hcall:=KCo.out l' w4 hp hr4
    have HS:=Lib.hid (And.intro hp (And.intro hs (And.intro hr4 hg4)))
    clear hp hs hr4 hg4 hsort KCo
    go_wp2_with fail
    refine hcall.mono ?_
    rintro e w5 hE
    obtain⟨rfl,hr5,hg5⟩:=hE
    have H2':=Lib.hid (HL.out.of_ HNk.out (c:=c5) (by rw[HN.out.2.2];exact hNl) HRow.out.1 HRow.out.2 HS.out.1 HS.out.2.1 HS.out.2.2.1 HS.out.2.2.2 hr5 hg5)
    obtain⟨cs,hcs⟩:∃cs,dedTo l' l'.length=cs:=⟨_,rfl⟩
    rw[hcs] at H2' ⊢
    obtain⟨mm,hmm0⟩:∃mm,cs.length=mm:=⟨_,rfl⟩
    rw[hmm0] at H2' ⊢
    obtain⟨HAo,hAo⟩:∃x,(some ⟨g,0,none⟩:Option Addr)=x:=⟨_,rfl⟩
    rw[hAo] at H2' ⊢
    have H2:Hid (Holes2 w1 w5 HAo mm c5 cs b ps):=H2'
    clear H2' hAo hcs hmm0 hr5 hg5 HS HRow hcall
    have x0:=(HB.out.calm H2.out.calm).x0
    have x1:=(HB.out.calm H2.out.calm).x1
    go_wp2_with fail
    refine (KCp.out w5 H2.out.calm).mono ?_
    rintro e w6 ⟨⟨A2,c2,rfl,hn6⟩,hc6⟩
    clear x0 x1
    obtain⟨w8,hw8⟩:∃w8,w8=w6.alloc (.cells #[.slice A2 n c2,.bool re,.slice none 0 0] 214):=⟨_,rfl⟩
    have hc8:Calm w6 w8:=by rw[hw8];exact (Calm.refl w6).alloc _
    have HG0:Hid (GTo w6 w8 w6.heap.size A2 n c2 re (.slice none 0 0) []):=⟨OwnX.nil hc8,Nat.le_refl _,by rw[hw8];exact⟨_,heap_alloc_new w6 _⟩,by rw[hw8];simp[go_sem],by rw[hw8];simp[go_sem],by rw[hw8];simp[go_sem]⟩
    have HX6:Hid (Calm w5 w6):=hc6
    have HN6:=Lib.hid hn6
    have HW8:=Lib.hid hw8
    have hmm:=H2.out.few
    clear hw8 hc8 hn6 hc6
    go_wp2_with fail
    rw[←HW8.out]
    go_loopw [44] (fun u wr=>∃(k2:Nat) (Av:Option Addr) (nv cv:Nat),k2≤mm∧u=.int .i64 k2∧Hid (GTo w6 wr w6.heap.size A2 n c2 re (.slice Av nv cv) (keptTo cs k2))) (fun u _=>mm - (intOf u).toNat)
    case atStart=>exact⟨0,_,_,_,Nat.zero_le _,rfl,HG0.out⟩
    case round=>
     obtain⟨k2,Av,nv,cv,hk2,rfl,HGk⟩:=hrel
     have HCq:Hid (Calm w6 wr):=HGk.out.own.calm
     by_cases hlt2:k2 < mm
     ·obtain⟨g2,rfl,hg2,hrow2⟩:=H2.out.row (by omega)
      have hrq:=hrow2.calm (HX6.out.trans HCq.out)
      obtain⟨x,hx⟩:∃x,cs[k2]?=some x:=⟨_,List.getElem?_eq_getElem (by rw[H2.out.len];exact hlt2)⟩
      obtain⟨c0,c1,c2'⟩:=hrq.at3 hx
      obtain⟨wB,hwB⟩:∃wB,wB=wr.alloc (.cells #[.slice x.A x.p.parts.length x.c,.bool x.p.rest,.string (bs (patText x.p))] 296):=⟨_,rfl⟩
      have hcB:Calm wr wB:=by rw[hwB];exact (Calm.refl wr).alloc _
      have b0:wB.cell? ⟨wr.heap.size,0,none⟩=some (.slice x.A x.p.parts.length x.c):=by rw[hwB];simp[go_sem]
      have b1:wB.cell? ⟨wr.heap.size,1,none⟩=some (.bool x.p.rest):=by rw[hwB];simp[go_sem]
      have b2:wB.cell? ⟨wr.heap.size,2,none⟩=some (.string (bs (patText x.p))):=by rw[hwB];simp[go_sem]
      have blt:wr.heap.size < wB.heap.size:=by rw[hwB];simp[go_sem]
      have eg:∀args w,(callFunc 206 args).run Tryz.prog w=.ok (.enter 206 args) w:=enters_of Tryz.func206 (by kernel_rfl) rfl
      have heach:∀y∈cs,∀W,Calm wB W→PatA W y.A y.c y.p:=fun y hy W hW=>((H2.out.each y hy).calm (HX6.out.trans (HCq.out.trans (hcB.trans hW)))).a
      have hpred:PredH 206 #[.pointer (some ⟨wr.heap.size,0,none⟩)] (otherIn x) cs wB:=fun W hW y hy=>
       hin_c x y (otherIn x y) wr.heap.size W (heach x (List.mem_of_getElem? hx) W hW) (heach y hy W hW) (Nat.lt_of_lt_of_le blt hW.size) (Calm.at_ hW b0 blt) (Calm.at_ hW b1 blt) (Calm.at_ hW b2 blt) rfl
      obtain⟨y,hy⟩:∃y,cs.any (otherIn x)=y:=⟨_,rfl⟩
      have hany:=hany_c 206 #[.pointer (some ⟨wr.heap.size,0,none⟩)] eg (otherIn x) cs g2 c5 wB (hrq.calm hcB) (by rw[H2.out.len];omega) hpred
      rw[hy,H2.out.len] at hany
      have HWB:=Lib.hid hwB
      have HCB:=Lib.hid hcB
      have HX:=Lib.hid hx
      have HY:=Lib.hid hy
      have HRq:=Lib.hid hrq
      clear hwB hcB b0 b1 b2 blt heach hpred hx hy hrq hrow2
      cases y with
      |true=>
       go_wp2_with (go_at_call 208;rw[←HWB.out];refine hany.mono ?_;rintro e w9 ⟨rfl,hc9⟩)
       have HG9:Hid (GTo w6 w9 w6.heap.size A2 n c2 re (.slice Av nv cv) (keptTo cs (k2+1))):=by
        have h9:=HGk.out.calm (HCB.out.trans hc9)
        have e9:keptTo cs (k2+1)=keptTo cs k2:=by rw[keptTo_succ HX.out,HY.out];simp
        rw[←e9] at h9
        exact h9
       clear hc9
       go_roundw
       case rel=>exact⟨k2+1,_,_,_,by omega,by go_num,HG9.out⟩
       case measure=>simp[intOf];omega
      |false=>
       go_wp2_with (go_at_call 208;rw[←HWB.out];refine hany.mono ?_;rintro e w9 ⟨rfl,hc9⟩)
       have HC9:=Lib.hid (HCB.out.trans hc9)
       have HG9:=Lib.hid (HGk.out.calm HC9.out)
       obtain⟨d0,d1,d2⟩:=(HRq.out.calm HC9.out).at3 HX.out
       have z2:=HG9.out.c2
       have hb6:=HG9.out.lt
       have hkl:(keptTo cs k2).length≤1000000:=by
        have h1:=keptTo_len cs k2
        rw[H2.out.len] at h1
        omega
       have e9:Hid (keptTo cs (k2+1)=keptTo cs k2++[x]):=by
        show keptTo cs (k2+1)=_
        rw[keptTo_succ HX.out,HY.out]
        simp
       clear hc9
       go_wp2_with fail
       go_region_law ((refine step_append_p rfl (.tmp 55) (.tmp 61) rfl w6 (.slice Av nv cv) (keptTo cs k2) (by simp[Act.eval,Act.put]) (HG9.out.own.to (by first | exact Calm.refl _ | exact (Calm.refl _).drewN _ | exact (Calm.refl _).alloc _ | exact ((Calm.refl _).drewN _).alloc _ | exact ((Calm.refl _).alloc _).drewN _)) _ 1 rfl x (by first | exact new_p x rfl | exact new_pd x rfl ((Calm.refl _).drewN _) | exact new_pd x rfl (Calm.refl _)) hkl ?_;intro v10 w10 hown10 hgr10;obtain⟨A10,n10,c10,hv10⟩:=hown10.shape;subst hv10;obtain⟨s2,sf⟩:=HG9.out.after (by first | exact Calm.refl _ | exact (Calm.refl _).drewN _ | exact (Calm.refl _).alloc _ | exact ((Calm.refl _).drewN _).alloc _ | exact ((Calm.refl _).alloc _).drewN _) hgr10;have HP:=Lib.hid (HG9.out.put (by first | exact Calm.refl _ | exact (Calm.refl _).drewN _ | exact (Calm.refl _).alloc _ | exact ((Calm.refl _).drewN _).alloc _ | exact ((Calm.refl _).alloc _).drewN _) hown10 hgr10)))
       all_goals
        rw[←e9.out] at HP
        clear hown10 hgr10 s2 sf d0 d1 d2 z2
        try simp only[List.getElem_toArray,List.getElem_cons_succ,List.getElem_cons_zero,Act.put,List.setIfInBounds_toArray,List.set_cons_succ,List.set_cons_zero]
        go_wp2
        go_roundw
        case rel=>exact⟨k2+1,_,_,_,by omega,by go_num,HP.out⟩
        case measure=>simp[intOf];omega
     ·obtain rfl:k2=mm:=by omega
      have hbr:=HB.out.calm (H2.out.calm.trans (HX6.out.trans HCq.out))
      have z0:=hbr.z0
      have z1:=hbr.z1
      have z2:=hbr.z2
      have f0:=hbr.fz 0
      have f1:=hbr.fz 1
      have f2:=hbr.fz 2
      have c0:=HGk.out.c0
      have c1:=HGk.out.c1
      have c2':=HGk.out.c2
      have hD:=fun (u0 u1 u2:Value)=>Lib.hid (red_done HGk.out H2.out HX6.out HN6.out HB.out HN.out.1 HN.out.2.1 u0 u1 u2)
      have hcF:=fun (u0 u1 u2:Value)=>Lib.hid (show Calm w (((wr.setCell ⟨w.heap.size+1,0,none⟩ u0).setCell ⟨w.heap.size+1,1,none⟩ u1).setCell ⟨w.heap.size+1,2,none⟩ u2) from Below.setCell (Below.setCell (Below.setCell (HC.out.trans (H2.out.calm.trans (HX6.out.trans HCq.out))) (by show w.heap.size≤w.heap.size+1;omega) _) (by show w.heap.size≤w.heap.size+1;omega) _) (by show w.heap.size≤w.heap.size+1;omega) _)
      clear hbr
      go_wp2
      refine bodyPost_ret (v:=.agg #[.slice A2 n c2,.bool re,.slice Av nv cv]) ?_ rfl ⟨(hD _ _ _).out,(hcF _ _ _).out⟩
      rw[results_cell1 rfl]
      go_simp
end Go.Proofs.YtcofdlipapnohaaGreatDoor
