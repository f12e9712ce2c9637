/- Walk: slices.Concat of two slices of patterns. -/
import Derived.Lib.AppendZeros
import Derived.Lib.SliceRun
import Derived.IntWalk
import Derived.Deep.RegionHeld3
import Derived.Deep.RegionWith
import Derived.Test.YtnlnclefedohkaaGreatDoorZMeetP
set_option linter.unusedVariables false
set_option linter.unusedSimpArgs false
namespace Go.Proofs.YtnlnclefedohkaaGreatDoor
open Go Go.RowKit Sy

variable {α : Type} {enc : α → List Value} {K : Nat} {T : TypeId}
def ReadX (enc : α → List Value) (K : Nat) (w : World) (A : Option Addr) (m : List α) : Prop:=m ≠ [] → ∃ b o,A = some ⟨b,o,none⟩ ∧ b < w.heap.size ∧ ∀ (k : Nat) x,m[k]? = some x → ∀ (i : Nat) u,(enc x)[i]? = some u → w.cell? ⟨b,o + k * K + i,none⟩ = some u
theorem ReadX.calm {w w' : World} {A : Option Addr} {m : List α} (h : ReadX enc K w A m) (hc : Calm w w') : ReadX enc K w' A m:=fun hne=>by
 obtain ⟨b,o,hA,hb,hk⟩:=h hne
 exact ⟨b,o,hA,Nat.lt_of_lt_of_le hb hc.size,fun k x hx i u hu=>Calm.at_ hc (hk k x hx i u hu) hb⟩
theorem encs_cells (hlen : ∀ x,(enc x).length = K) : ∀ (l : List α) (j : Nat) u,(encs enc l)[j]? = some u → ∃ k x i,l[k]? = some x ∧ j = k * K + i ∧ (enc x)[i]? = some u
 |[],j,u,h=>by simp [encs] at h
 |y :: t,j,u,h=>by
  have e : encs enc (y :: t) = enc y ++ encs enc t:=by simp [encs]
  rw [e] at h
  by_cases hj : j < K
  ·rw [List.getElem?_append_left (by rw [hlen];exact hj)] at h
   exact ⟨0,y,j,rfl,by omega,h⟩
  ·rw [List.getElem?_append_right (by rw [hlen];omega),hlen] at h
   obtain ⟨k,x,i,h1,h2,h3⟩:=encs_cells hlen t (j - K) u h
   exact ⟨k + 1,x,i,by simpa using h1,by rw [Nat.add_mul,Nat.one_mul];omega,h3⟩
theorem encs_app (l m : List α) : encs enc (l ++ m) = encs enc l ++ encs enc m:=by simp [encs]
theorem run_append_xs {P : Program} {w w0 : World} {S ty : TypeId} {i0 : TypeInfo} {z : Value} {bytes : Nat} (ht : P.underlying S = some (.slice T)) (hi : P.info? T = some i0) (hz : i0.zero = some z) (hsize : i0.size = K) (hby : i0.bytes = bytes) (hzs : z.cells.size = K) (hK : 0 < K)
  (hlen : ∀ x,(enc x).length = K) (h1 : ∀ x,∀ u ∈ enc x,u.oneCell' = true) {v : Value} {l m : List α} {A : Option Addr} {n c : Nat} (hown : OwnX enc K T w0 w v l) (hm : m.length = n)
  (hrd : ReadX enc K w A m) (hl : l.length + n ≤ 2000000) (hb : bytes ≤ 1000) :
  ∃ v' w',(Builtin.append_ #[S,S] ty #[v,.slice A n c]).run P w = .ok v' w' ∧ OwnX enc K T w0 w' v' (l ++ m) ∧ w.grownBy w' v.ownBlock:=by
 cases A with
 |none=>
  have h0 : m = []:=Classical.byContradiction fun hne=>by
   obtain ⟨b,o,hA,_⟩:=hrd hne
   cases hA
  subst h0
  obtain rfl : 0 = n:=by simpa using hm
  refine ⟨v,w,?_,by rw [List.append_nil];exact hown,calm_grown (Calm.refl w)⟩
  rcases hown.own.2 with ⟨rfl,h1⟩ | ⟨g,cap,cur,rfl,_,_,hnc,_⟩
  ·simp [Builtin.append_,run_underlying ht,sizeOf,typeInfo,hi,Builtin.lenOf,Builtin.firstCells]
  ·simp [Builtin.append_,run_underlying ht,sizeOf,typeInfo,hi,Builtin.lenOf,Builtin.firstCells,hnc,storeCells]
 |some ad=>
  have hnews : ∀ (j : Nat) (u : Value),(encs enc m)[j]? = some u → w.cell? (ad.add j) = some u:=fun j u hj=>by
   obtain ⟨k,x,i,h2,rfl,h3⟩:=encs_cells hlen m j u hj
   obtain ⟨b,o,hA,_,hk⟩:=hrd (fun e=>by rw [e] at h2;simp at h2)
   obtain rfl:=Option.some.inj hA
   simpa [Addr.add_lit,Nat.add_assoc] using hk k x h2 i u h3
  have h2 : ∀ u ∈ encs enc m,u.oneCell' = true:=fun u hu=>by
   obtain ⟨x,_,hx⟩:=List.mem_flatMap.1 hu
   exact h1 x u hx
  obtain ⟨v',w',hr,h3,h4,_⟩:=run_append_own (P:=P) w w0.heap.size S ty T i0 z K bytes ht hi hz hsize hby hzs hK v l.length (encs enc l) hown.own ad n c (encs enc m) (by rw [encs_len hlen,hm]) hnews h2 (by unfold maxLen;omega) (Nat.le_trans (Nat.mul_le_mul (show l.length + n ≤ 2000000 by omega) hb) (by decide)) hown.calm.size
  exact ⟨v',w',hr,⟨Below.trans hown.calm (owns_below hown.own hown.calm.size h4),by rw [List.length_append,hm,encs_app];exact h3⟩,h4⟩
theorem OwnX.len_shape {α : Type} {enc : α → List Value} {K : Nat} {T : TypeId} {w0 w : World} {v : Value} {l : List α} (h : OwnX enc K T w0 w v l) : ∃ A c,v = .slice A l.length c:=by
 rcases h.own.2 with ⟨rfl,h0⟩ | ⟨g,cap,cur,rfl,_⟩
 ·exact ⟨none,0,by rw [h0]⟩
 ·exact ⟨_,_,rfl⟩
theorem OwnX.base {α : Type} {enc : α → List Value} {K : Nat} {T : TypeId} {w00 w0 w : World} {v : Value} {l : List α} (h : OwnX enc K T w0 w v l) (h0 : Calm w00 w0) : OwnX enc K T w00 w v l:=by
 refine ⟨h0.trans h.calm,h.own.1,?_⟩
 rcases h.own.2 with h2 | ⟨g,cap,cur,hv,hg,hh,r⟩
 ·exact .inl h2
 ·exact .inr ⟨g,cap,cur,hv,Nat.le_trans h0.size hg,hh,r⟩
theorem RowX.put1 {w : World} {g o : Nat} {l : List α} (hlen : ∀ x,(enc x).length = K) (h : RowX enc K T w g o l) {k j : Nat} {x y : α} {u : Value} (hk : l[k]? = some x) (hj : j < K) (he : enc y = (enc x).set j u) : RowX enc K T (w.setCell ⟨g,o + k * K + j,none⟩ u) g o (l.set k y):=by
 refine ⟨?_,fun t z ht i v hv=>?_⟩
 ·obtain ⟨cs,hh⟩:=h.kind
  exact ⟨cs.setIfInBounds (o + k * K + j) u,by simp [World.setCell,Array.getElem?_modify,hh]⟩
 ·have hi : i < K:=by rw [← hlen z];exact (List.getElem?_eq_some_iff.1 hv).1
  by_cases e : k = t
  ·subst e
   rw [List.getElem?_set_self (List.getElem?_eq_some_iff.1 hk).1] at ht
   obtain rfl : y = z:=Option.some.inj ht
   rw [he] at hv
   by_cases e2 : j = i
   ·subst e2
    rw [List.getElem?_set_self (by rw [hlen];exact hj)] at hv
    obtain rfl:=Option.some.inj hv
    have h0:=h.cell k x hk j _ (List.getElem?_eq_getElem (by rw [hlen];exact hj))
    exact World.cell?_setCell_same _ _ _ h0
   ·rw [List.getElem?_set_ne e2] at hv
    rw [World.cell?_setCell_other _ _ _ _ (by intro e3;have:=congrArg Addr.off e3;simp at this;omega)]
    exact h.cell k x hk i v hv
  ·rw [List.getElem?_set_ne e] at ht
   have hne : o + k * K + j ≠ o + t * K + i:=by
    rcases Nat.lt_or_ge k t with h1 | h1
    ·have:=Nat.mul_le_mul_right K (show k + 1 ≤ t from h1)
     rw [Nat.add_mul,Nat.one_mul] at this
     omega
    ·have:=Nat.mul_le_mul_right K (show t + 1 ≤ k by omega)
     rw [Nat.add_mul,Nat.one_mul] at this
     omega
   rw [World.cell?_setCell_other _ _ _ _ (by intro e3;have:=congrArg Addr.off e3;simp at this;omega)]
   exact h.cell t z ht i v hv
theorem step_append_xs {S : TypeId} {z : Value} {bytes : Nat} (ht : Tryz.prog.underlying S = some (.slice T)) (hi : (Tryz.prog.info? T).map (fun i=>(i.zero,i.size,i.bytes)) = some (some z,K,bytes)) (hzs : z.cells.size = K) (hK0 : 0 < K) (hb : bytes ≤ 1000)
  (hlen : ∀ x,(enc x).length = K) (h1 : ∀ x,∀ u ∈ enc x,u.oneCell' = true)
  {ops : Array Oper} {o : Oper} {a : Act} {w : World} {R : Act → World → Prop} {Q : Exit → Act → World → Prop} {E : Prop}
  (hg : o.guard = none) (s x : Operand) (hop : o.op = Op.call { callee:=Callee.builtin Builtin.append,args:=#[s,x],argTypes:=#[S,S] })
  (w0 : World) (v : Value) (l m : List α) (hs : a.eval s = v) (hown : OwnX enc K T w0 w v l) (A : Option Addr) (n c : Nat) (hx : a.eval x = .slice A n c) (hm : m.length = n)
  (hrd : ReadX enc K w A m) (hl : l.length + n ≤ 2000000)
  (hK : ∀ v' w',OwnX enc K T w0 w' v' (l ++ m) → w.grownBy w' v.ownBlock → R (a.put o.dst v') w') :
  if Region.wanted o (yielded ops a.tmps) = true then Oper.wp Tryz.prog o a w R Q else E:=by
 have hw : Region.wanted o (yielded ops a.tmps) = true:=by simp [Region.wanted,hg]
 rw [if_pos hw]
 obtain ⟨i0,hi0,hz0,hz1,hz2⟩:=info_parts hi
 obtain ⟨v',w',hr,h2,h3⟩:=run_append_xs (P:=Tryz.prog) (ty:=o.type) (c:=c) ht hi0 hz0 hz1 hz2 hzs hK0 hlen h1 hown hm hrd hl hb
 unfold Oper.wp
 simp [execOp,hop,resolve,invoke,builtin,hs,hx,Result.andThen]
 rw [hr]
 exact hK v' w' h2 h3
theorem wpList_append_xs {S : TypeId} {z : Value} {bytes : Nat} (ht : Tryz.prog.underlying S = some (.slice T)) (hi : (Tryz.prog.info? T).map (fun i=>(i.zero,i.size,i.bytes)) = some (some z,K,bytes)) (hzs : z.cells.size = K) (hK0 : 0 < K) (hb : bytes ≤ 1000)
  (hlen : ∀ x,(enc x).length = K) (h1 : ∀ x,∀ u ∈ enc x,u.oneCell' = true)
  {ops : Array Oper} {rest : List Oper} {o : Oper} {a : Act} {Q : Exit → Act → World → Prop} {w : World} (hgd : o.guard = none) (s x : Operand)
  (ho : o.op = .call { callee:=.builtin .append,args:=#[s,x],argTypes:=#[S,S] }) (w0 : World) (v : Value) (l m : List α) (hs : a.eval s = v) (hown : OwnX enc K T w0 w v l) (A : Option Addr) (n c : Nat) (hx : a.eval x = .slice A n c) (hm : m.length = n)
  (hrd : ReadX enc K w A m) (hl : l.length + n ≤ 2000000)
  (h : ∀ v' w',OwnX enc K T w0 w' v' (l ++ m) → w.grownBy w' v.ownBlock → wpList Tryz.prog ops Q rest (a.put o.dst v') w') : wpList Tryz.prog ops Q (o :: rest) a w:=by
 refine wpList_plain hgd fun _ hK=>?_
 obtain ⟨i0,hi0,hz0,hz1,hz2⟩:=info_parts hi
 obtain ⟨v',w',hr,h2,h3⟩:=run_append_xs (P:=Tryz.prog) (ty:=o.type) (c:=c) ht hi0 hz0 hz1 hz2 hzs hK0 hlen h1 hown hm hrd hl hb
 unfold Oper.wp execOp
 simp only [ho,resolve,invoke,builtin,Sem.run_bind,Sem.run_pure,Result.andThen_ok,List.map_toArray,List.map_cons,List.map_nil,hs,hx]
 rw [hr]
 exact hK _ _ (h v' w' h2 h3)
end Go.Proofs.YtnlnclefedohkaaGreatDoor
set_option linter.unusedVariables false
set_option linter.unusedSimpArgs false
namespace Go.Proofs.YtnlnclefedohkaaGreatDoor
open Go Go.RowKit Sy

variable {α : Type} {enc : α → List Value} {K : Nat} {T : TypeId}
structure PatsX (w : World) (A : Option Addr) (l : List NewP) : Prop where
 each : ∀ x ∈ l,PatA w x.A x.c x.p
 read : ReadX encP 2 w A l
theorem PatsX.calm {w w' : World} {A : Option Addr} {l : List NewP} (h : PatsX w A l) (hc : Calm w w') : PatsX w' A l:=⟨fun x hx=>(h.each x hx).calm hc,h.read.calm hc⟩
theorem PatsX.reads {w : World} {A : Option Addr} {l : List NewP} (h : PatsX w A l) (hl : l.length ≤ 16384) : PatsR w A (l.map (·.p)):=by
 refine ⟨by rw [List.length_map];exact hl,fun h0=>?_⟩
 rw [List.length_map] at h0
 obtain ⟨b,o,hA,hb,hk⟩:=h.read (List.length_pos_iff.1 h0)
 refine ⟨b,o,hA,hb,fun k p hp=>?_⟩
 rw [List.getElem?_map] at hp
 obtain ⟨x,hx,rfl⟩:=Option.map_eq_some_iff.1 hp
 have hpa:=h.each x (List.mem_of_getElem? hx)
 exact ⟨x.A,x.c,hk k x hx 0 _ rfl,hk k x hx 1 _ rfl,hpa.room,hpa.cap,hpa.r⟩
theorem PatsR.places {w : World} {A : Option Addr} {ps : List Pat} (h : PatsR w A ps) : ∃ l : List NewP,l.map (·.p) = ps ∧ PatsX w A l:=by
 rcases Nat.eq_zero_or_pos ps.length with h0 | h0
 ·have : ps = []:=List.eq_nil_of_length_eq_zero h0
  subst this
  exact ⟨[],rfl,(fun x hx=>by cases hx),fun hne=>absurd rfl hne⟩
 ·obtain ⟨b,o,hA,hb,hc⟩:=h.at_ h0
  have hex : ∀ k : Fin ps.length,∃ r : NewP,r.p = ps[k] ∧ PatA w r.A r.c r.p ∧ w.cell? ⟨b,o + k.val * 2,none⟩ = some (.slice r.A r.p.parts.length r.c) ∧ w.cell? ⟨b,o + k.val * 2 + 1,none⟩ = some (.bool r.p.rest):=fun k=>by
   obtain ⟨Ak,ck,g1,g2,g3,g4,g5⟩:=hc k.val _ (List.getElem?_eq_getElem k.isLt)
   exact ⟨⟨Ak,ck,ps[k]⟩,rfl,⟨g5,g3,g4⟩,g1,g2⟩
  let f : Fin ps.length → NewP:=fun k=>Classical.choose (hex k)
  have hf : ∀ k,(f k).p = ps[k] ∧ PatA w (f k).A (f k).c (f k).p ∧ w.cell? ⟨b,o + k.val * 2,none⟩ = some (.slice (f k).A (f k).p.parts.length (f k).c) ∧ w.cell? ⟨b,o + k.val * 2 + 1,none⟩ = some (.bool (f k).p.rest):=fun k=>Classical.choose_spec (hex k)
  refine ⟨List.ofFn f,?_,fun x hx=>?_,fun _=>⟨b,o,hA,hb,fun k x hk i u hu=>?_⟩⟩
  ·apply List.ext_getElem
   ·simp
   ·intro j h1 h2
    simp only [List.getElem_map,List.getElem_ofFn]
    exact (hf ⟨j,h2⟩).1
  ·obtain ⟨k,rfl⟩:=List.mem_ofFn.1 hx
   exact (hf k).2.1
  ·obtain ⟨hlt,he⟩:=List.getElem?_eq_some_iff.1 hk
   simp only [List.getElem_ofFn] at he
   have hlt2 : k < ps.length:=by simpa using hlt
   have:=hf ⟨k,hlt2⟩
   rw [he] at this
   match i,hu with
   |0,hu=>obtain rfl:=Option.some.inj hu;exact this.2.2.1
   |1,hu=>obtain rfl:=Option.some.inj hu;exact this.2.2.2
   |i + 2,hu=>simp [encP] at hu
theorem PatsN.places {w : World} {B : Nat} {A : Option Addr} {c : Nat} {ps : List Pat} (h : PatsN w B A c ps) : ∃ l : List NewP,l.map (·.p) = ps ∧ PatsX w A l:=by
 obtain ⟨l,h1,h2,h3⟩:=h.ex
 refine ⟨l,h1,fun x hx=>(h3 x hx).a,fun hne=>?_⟩
 rcases h2 with ⟨_,h2⟩ | ⟨g,hA,hg,hr⟩
 ·rw [h2,List.map_eq_nil_iff] at h1
  exact absurd h1 hne
 ·exact ⟨g,0,hA,hr.lt,hr.cell⟩
theorem PatsN.reads {w : World} {B : Nat} {A : Option Addr} {c : Nat} {ps : List Pat} (h : PatsN w B A c ps) (hl : ps.length ≤ 16384) : PatsR w A ps:=by
 obtain ⟨l,h1,h2⟩:=h.places
 rw [← h1] at hl ⊢
 rw [List.length_map] at hl
 exact h2.reads hl
theorem OwnX.places {w0 wr : World} {v : Value} {l : List NewP} (h : OwnX encP 2 40 w0 wr v l) (he : ∀ x ∈ l,PatA wr x.A x.c x.p) : ∃ A c,v = .slice A l.length c ∧ l.length ≤ c ∧ c ≤ 9223372036854775807 ∧ PatsX wr A l:=by
 rcases h.row encP_len with ⟨rfl,h0⟩ | ⟨g,c,rfl,h1,h2,_,hr⟩
 ·subst h0
  exact ⟨none,0,rfl,Nat.le_refl _,by omega,he,fun hne=>absurd rfl hne⟩
 ·exact ⟨_,c,rfl,h1,h2,he,fun _=>⟨g,0,rfl,hr.lt,hr.cell⟩⟩
theorem step_append_ps {ops : Array Oper} {o : Oper} {a : Act} {w : World} {K : Act → World → Prop} {Q : Exit → Act → World → Prop} {E : Prop}
  (hg : o.guard = none) (s x : Operand) (hop : o.op = Op.call { callee:=Callee.builtin Builtin.append,args:=#[s,x],argTypes:=#[41,41] })
  (w0 : World) (v : Value) (l m : List NewP) (hs : a.eval s = v) (hown : OwnX encP 2 40 w0 w v l) (A : Option Addr) (n c : Nat) (hx : a.eval x = .slice A n c) (hm : m.length = n)
  (hrd : ReadX encP 2 w A m) (hl : l.length + n ≤ 1000000)
  (hK : ∀ v' w',OwnX encP 2 40 w0 w' v' (l ++ m) → w.grownBy w' v.ownBlock → K (a.put o.dst v') w') :
  if Region.wanted o (yielded ops a.tmps) = true then Oper.wp Tryz.prog o a w K Q else E:=by
 have hw : Region.wanted o (yielded ops a.tmps) = true:=by simp [Region.wanted,hg]
 rw [if_pos hw]
 obtain ⟨i0,hi0,hz0,hz1,hz2⟩:=info_parts info_patE
 obtain ⟨v',w',hr,h2,h3⟩:=run_append_xs (P:=Tryz.prog) (ty:=o.type) (c:=c) Tryz.underlying41 hi0 hz0 hz1 hz2 rfl (by decide) encP_len encP_one hown hm hrd (by omega) (by decide)
 unfold Oper.wp
 simp [execOp,hop,resolve,invoke,builtin,hs,hx,Result.andThen]
 rw [hr]
 exact hK v' w' h2 h3
theorem wpList_append_ps {ops : Array Oper} {rest : List Oper} {o : Oper} {a : Act} {Q : Exit → Act → World → Prop} {w : World} (hgd : o.guard = none) (s x : Operand)
  (ho : o.op = .call { callee:=.builtin .append,args:=#[s,x],argTypes:=#[41,41] }) (w0 : World) (v : Value) (l m : List NewP) (hs : a.eval s = v) (hown : OwnX encP 2 40 w0 w v l) (A : Option Addr) (n c : Nat) (hx : a.eval x = .slice A n c) (hm : m.length = n)
  (hrd : ReadX encP 2 w A m) (hl : l.length + n ≤ 1000000)
  (h : ∀ v' w',OwnX encP 2 40 w0 w' v' (l ++ m) → w.grownBy w' v.ownBlock → wpList Tryz.prog ops Q rest (a.put o.dst v') w') : wpList Tryz.prog ops Q (o :: rest) a w:=by
 refine wpList_plain hgd fun _ hK=>?_
 obtain ⟨i0,hi0,hz0,hz1,hz2⟩:=info_parts info_patE
 obtain ⟨v',w',hr,h2,h3⟩:=run_append_xs (P:=Tryz.prog) (ty:=o.type) (c:=c) Tryz.underlying41 hi0 hz0 hz1 hz2 rfl (by decide) encP_len encP_one hown hm hrd (by omega) (by decide)
 unfold Oper.wp execOp
 simp only [ho,resolve,invoke,builtin,Sem.run_bind,Sem.run_pure,Result.andThen_ok,List.map_toArray,List.map_cons,List.map_nil,hs,hx]
 rw [hr]
 exact hK _ _ (h v' w' h2 h3)
theorem PatsN.set {w : World} {B : Nat} {A : Option Addr} {c : Nat} {ps : List Pat} (h : PatsN w B A c ps) {p : Addr} (u : Value) (hp : p.block < B) : PatsN (w.setCell p u) B A c ps:=by
 obtain ⟨l,h1,h2,h3⟩:=h.ex
 refine ⟨⟨l,h1,?_,fun x hx=>(h3 x hx).set u hp⟩,h.room,h.cap⟩
 rcases h2 with h2 | ⟨g,hA,hg,hr⟩
 ·exact .inl h2
 ·exact .inr ⟨g,hA,hg,hr.of_block (Deep.blk_setCell_other _ _ _ _ (by omega))⟩
theorem PatsN.mono {w : World} {B B' : Nat} {A : Option Addr} {c : Nat} {ps : List Pat} (h : PatsN w B A c ps) (hB : B' ≤ B) : PatsN w B' A c ps:=by
 obtain ⟨l,h1,h2,h3⟩:=h.ex
 refine ⟨⟨l,h1,?_,fun x hx=>(h3 x hx).mono hB⟩,h.room,h.cap⟩
 rcases h2 with h2 | ⟨g,hA,hg,hr⟩
 ·exact .inl h2
 ·exact .inr ⟨g,hA,Nat.le_trans hB hg,hr⟩
theorem PatsN.calm {w w' : World} {B : Nat} {A : Option Addr} {c : Nat} {ps : List Pat} (h : PatsN w B A c ps) (hc : Calm w w') : PatsN w' B A c ps:=by
 obtain ⟨l,h1,h2,h3⟩:=h.ex
 refine ⟨⟨l,h1,?_,fun x hx=>(h3 x hx).calm hc⟩,h.room,h.cap⟩
 rcases h2 with h2 | ⟨g,hA,hg,hr⟩
 ·exact .inl h2
 ·exact .inr ⟨g,hA,hg,hr.calm hc⟩

theorem PatsN.own {w w' : World} {B : Nat} {A : Option Addr} {c : Nat} {ps : List Pat} (h : PatsN w B A c ps) {B0 n K : Nat} {v : Value} {T : TypeId} {xs : List Value} (hT : 40 ≠ T) (hS : 9 ≠ T) (hown : w.ownsRow B0 T K v n xs) (hg : w.grownBy w' v.ownBlock) : PatsN w' B A c ps:=by
 obtain ⟨l,h1,h2,h3⟩:=h.ex
 refine ⟨⟨l,h1,?_,fun x hx=>(h3 x hx).own hS hown hg⟩,h.room,h.cap⟩
 rcases h2 with h2 | ⟨g,hA,hgB,hr⟩
 ·exact .inl h2
 ·refine .inr ⟨g,hA,hgB,hr.grown hg fun e=>?_⟩
  obtain ⟨cs,hh⟩:=hr.kind
  rcases hown.2 with ⟨rfl,_⟩ | ⟨g',cap,cur,rfl,_,hgh,_⟩
  ·simp [Value.ownBlock] at e
  ·have e2 : g = g':=by simpa [Value.ownBlock] using e
   rw [e2,hgh] at hh
   injection hh with hh
   injection hh with _ ht
   exact hT ht.symm
end Go.Proofs.YtnlnclefedohkaaGreatDoor
set_option linter.unusedVariables false
set_option linter.unusedSimpArgs false
namespace Go.Proofs.YtnlnclefedohkaaGreatDoor
open Go Go.RowKit Sy
theorem own_room {w : World} {cur : Array Value} {cap : Nat} (hm : cap ≤ maxLen) (hs : cur.size = cap * 2) : OwnX encP 2 40 w (w.drew.alloc (.cells cur 40)) (.slice (some ⟨w.heap.size,0,none⟩) 0 cap) []:=
 ⟨Below.alloc (Below.drew (Calm.refl w)) (Below.drew (Calm.refl w)).size _,by
  have:=World.ownsRow_made (base:=w.heap.size) (e:=40) (size:=2) w.drew cur cap (Nat.le_refl _) hm hs
  exact this⟩
def GrowEnd (w : World) (e : Ending) (w' : World) : Prop:=∃ A c,e = .returned (.slice A 0 c) ∧ OwnX encP 2 40 w w' (.slice A 0 c) []
set_option maxRecDepth 100000 in
set_option maxHeartbeats 2000000 in
theorem grow_c (n : Nat) (w : World) (hn : n ≤ 1000000) : Calls Tryz.prog 70 #[.slice none 0 0,.int .i64 n] w fun e w'=>GrowEnd w e w':=by
 rcases Nat.eq_zero_or_pos n with rfl | h0
 ·go_enter Tryz.func70,Tryz.ntmps70
  go_wp2
  go_ret
  exact ⟨none,0,rfl,OwnX.nil (Calm.refl w)⟩
 ·obtain ⟨i0,hi0,hz0,hz1,hz2⟩:=info_parts info_patE
  have hr:=fun ty=>Lib.run_append_nil_zeros (P:=Tryz.prog) w 41 3 ty 40 i0 _ .i64 .i64 Tryz.underlying41 Tryz.underlying3 hi0 hz0 n h0 (by rw [hz1];decide) (by omega) (by rw [hz2];omega)
  have hge:=grownCap_ge w n 0 40
  have hle:=grownCap_le_maxLen w n 0 40 (by unfold maxLen;omega)
  obtain ⟨G,hG⟩ : ∃ G,grownCap w n 0 40 = G:=⟨_,rfl⟩
  rw [hG] at hge hle hr
  obtain ⟨cur,hcur⟩ : ∃ cur,cur = Builtin.zeroCells (Value.agg #[.slice none 0 0,.bool false]).cells n ++ Builtin.zeroCells (Value.agg #[.slice none 0 0,.bool false]).cells (G - n):=⟨_,rfl⟩
  have hcs : cur.size = G * 2:=by
   rw [hcur]
   simp [Builtin.zeroCells,Value.cells]
   omega
  rw [← hcur] at hr
  have HO:=Lib.hid (own_room (w:=w) (cur:=cur) hle hcs)
  have hG63 : G ≤ 9223372036854775807:=by unfold maxLen at hle;omega
  clear hG hcur hcs hle
  go_enter Tryz.func70,Tryz.ntmps70
  go_wp2_with (at_builtin;refine Lib.wpList_append_run _ rfl _ _ _ _ rfl _ _ rfl rfl _ _ (hr _) ?_)
  go_ret
  exact ⟨_,_,rfl,HO.out⟩
def CatEnd (ps : List Pat) (w : World) (e : Ending) (w' : World) : Prop:=∃ A c,e = .returned (.slice A ps.length c) ∧ PatsR w' A ps
set_option maxHeartbeats 4000000 in
theorem concat_c (ps qs : List Pat) (A A' : Option Addr) (n m c c' : Nat) (g cc : Nat) (w : World) (hp : PatsR w A ps) (hq : PatsR w A' qs) (hn : ps.length = n) (hm : qs.length = m) (hl : n + m ≤ 16384)
  (k0 : w.cell? ⟨g,0,none⟩ = some (.slice A n c)) (k1 : w.cell? ⟨g,1,none⟩ = some (.slice A' m c')) (hg : g < w.heap.size) :
  Calls Tryz.prog 36 #[.slice (some ⟨g,0,none⟩) 2 cc] w fun e w'=>CatEnd (ps ++ qs) w e w' ∧ Calm w w':=by
 obtain ⟨lp,hlp,hX⟩:=hp.places
 obtain ⟨lq,hlq,hY⟩:=hq.places
 have e1 : lp.length = n:=by rw [← hn,← hlp,List.length_map]
 have e2 : lq.length = m:=by rw [← hm,← hlq,List.length_map]
 have HX:=Lib.hid (And.intro hX (And.intro hY (And.intro e1 e2)))
 have HL:=Lib.hid (And.intro hlp hlq)
 have KG:=Lib.hid (fun W=>grow_c (n + m) W (by omega))
 have z1 : IntKind.i64.wrap ((0 : Int) + (n : Int)) = (n : Int):=IntWalk.i64_in _ (by omega) |>.trans (by omega)
 have z2 : IntKind.i64.wrap ((n : Int) + (m : Int)) = ((n + m : Nat) : Int):=by rw [IntWalk.i64_in _ (by omega)];omega
 have HK:=Lib.hid (And.intro k0 (And.intro k1 hg))
 clear hp hq hX hY e1 e2 hlp hlq hn hm
 go_enter Tryz.func36,Tryz.ntmps36
 go_wp2_with fail
 go_loopw [3,11] (fun s i wr=>w = wr ∧ ((i = .int .i64 0 ∧ s = .int .i64 0) ∨ (i = .int .i64 1 ∧ s = .int .i64 n) ∨ (i = .int .i64 2 ∧ s = .int .i64 ((n + m : Nat) : Int)))) (fun _ i _=>2 - (intOf i).toNat)
 case atStart=>exact ⟨rfl,.inl ⟨rfl,rfl⟩⟩
 case round=>
  obtain ⟨rfl,hrel⟩:=hrel
  rcases hrel with ⟨rfl,rfl⟩ | ⟨rfl,rfl⟩ | ⟨rfl,rfl⟩
  ·go_wp2
   go_roundw
   case rel=>exact ⟨trivial,.inr (.inl ⟨by go_num,by go_num⟩)⟩
   case measure=>simp [intOf]
  ·go_wp2
   go_roundw
   case rel=>exact ⟨trivial,.inr (.inr ⟨by go_num,by go_num⟩)⟩
   case measure=>simp [intOf]
  ·go_wp2_with (go_at_call 70;refine (KG.out _).mono ?_;rintro e w2 ⟨AG,cG,rfl,hOG⟩)
   have HOG:=Lib.hid hOG
   clear hOG z1 z2 k0 k1
   go_loopw [6,27] (fun s i wr=>(i = .int .i64 0 ∧ Hid (OwnX encP 2 40 w wr s [])) ∨ (i = .int .i64 1 ∧ Hid (OwnX encP 2 40 w wr s lp)) ∨ (i = .int .i64 2 ∧ Hid (OwnX encP 2 40 w wr s (lp ++ lq)))) (fun _ i _=>2 - (intOf i).toNat)
   case atStart=>exact .inl ⟨rfl,HOG.out⟩
   case round=>
    rcases hrel with ⟨rfl,HO⟩ | ⟨rfl,HO⟩ | ⟨rfl,HO⟩
    ·have k0:=Calm.at_ HO.out.calm HK.out.1 HK.out.2.2
     have hgr:=Nat.lt_of_lt_of_le HK.out.2.2 HO.out.calm.size
     go_wp2_with (at_builtin;refine wpList_append_ps rfl (.tmp 31) (.tmp 32) rfl w u6 [] lp rfl HO.out A n c rfl HX.out.2.2.1 (HX.out.1.read.calm HO.out.calm) (by simp;omega) ?_;intro v6 w6 hown6 hgr6)
     have H6:=Lib.hid hown6
     clear hown6 hgr6 k0 hgr
     go_wp2
     go_roundw
     case rel=>exact .inr (.inl ⟨by go_num,Lib.hid (by simpa using H6.out)⟩)
     case measure=>simp [intOf]
    ·have k1:=Calm.at_ HO.out.calm HK.out.2.1 HK.out.2.2
     have hgr:=Nat.lt_of_lt_of_le HK.out.2.2 HO.out.calm.size
     go_wp2_with (at_builtin;refine wpList_append_ps rfl (.tmp 31) (.tmp 32) rfl w u6 lp lq rfl HO.out A' m c' rfl HX.out.2.2.2 (HX.out.2.1.read.calm HO.out.calm) (by rw [HX.out.2.2.1];omega) ?_;intro v6 w6 hown6 hgr6)
     have H6:=Lib.hid hown6
     clear hown6 hgr6 k1 hgr
     go_wp2
     go_roundw
     case rel=>exact .inr (.inr ⟨by go_num,H6.out⟩)
     case measure=>simp [intOf]
    ·have he : ∀ x ∈ lp ++ lq,PatA wr x.A x.c x.p:=fun x hx=>by
      rcases List.mem_append.1 hx with h | h
      ·exact (HX.out.1.each x h).calm HO.out.calm
      ·exact (HX.out.2.1.each x h).calm HO.out.calm
     obtain ⟨A9,c9,rfl,_,_,hX9⟩:=HO.out.places he
     have hlen : (lp ++ lq).length = n + m:=by rw [List.length_append,HX.out.2.2.1,HX.out.2.2.2]
     have hE : Hid (CatEnd (ps ++ qs) w (.returned (.slice A9 (n + m) c9)) wr):=by
      refine ⟨A9,c9,?_,?_⟩
      ·rw [← hlen,← HL.out.1,← HL.out.2,← List.map_append,List.length_map]
      ·have:=hX9.reads (by rw [hlen];omega)
       rw [List.map_append,HL.out.1,HL.out.2] at this
       exact this
     rw [hlen]
     have HC:=Lib.hid HO.out.calm
     clear hlen he hX9
     go_wp2
     go_ret
     exact ⟨hE.out,HC.out⟩
end Go.Proofs.YtnlnclefedohkaaGreatDoor
