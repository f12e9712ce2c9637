/- Rows of patterns. -/
import Derived.Lib.AppendZeros
import Derived.Lib.SliceRun
import Derived.Test.YthopphabeddnfaaGreatDoorZRowX
import Derived.Test.YthopphabeddnfaaGreatDoorZMeetP
set_option linter.unusedVariables false
set_option linter.unusedSimpArgs false
namespace Go.Proofs.YthopphabeddnfaaGreatDoor
open Go Go.RowKit Sy

variable {α : Type} {enc : α → List Value} {K : Nat} {T : TypeId}
def ReadX (enc : α → List Value) (K : Nat) (w : World) (A : Option Addr) (m : List α) : Prop:=m ≠ [] → ∃ b o,A = some ⟨b,o,none⟩ ∧ b < w.heap.size ∧ ∀ (k : Nat) x,m[k]? = some x → ∀ (i : Nat) u,(enc x)[i]? = some u → w.cell? ⟨b,o + k * K + i,none⟩ = some u
theorem ReadX.calm {w w' : World} {A : Option Addr} {m : List α} (h : ReadX enc K w A m) (hc : Calm w w') : ReadX enc K w' A m:=fun hne=>by
 obtain ⟨b,o,hA,hb,hk⟩:=h hne
 exact ⟨b,o,hA,Nat.lt_of_lt_of_le hb hc.size,fun k x hx i u hu=>Calm.at_ hc (hk k x hx i u hu) hb⟩
theorem encs_cells (hlen : ∀ x,(enc x).length = K) : ∀ (l : List α) (j : Nat) u,(encs enc l)[j]? = some u → ∃ k x i,l[k]? = some x ∧ j = k * K + i ∧ (enc x)[i]? = some u
 |[],j,u,h=>by simp [encs] at h
 |y :: t,j,u,h=>by
  have e : encs enc (y :: t) = enc y ++ encs enc t:=by simp [encs]
  rw [e] at h
  by_cases hj : j < K
  ·rw [List.getElem?_append_left (by rw [hlen];exact hj)] at h
   exact ⟨0,y,j,rfl,by omega,h⟩
  ·rw [List.getElem?_append_right (by rw [hlen];omega),hlen] at h
   obtain ⟨k,x,i,h1,h2,h3⟩:=encs_cells hlen t (j - K) u h
   exact ⟨k + 1,x,i,by simpa using h1,by rw [Nat.add_mul,Nat.one_mul];omega,h3⟩
theorem encs_app (l m : List α) : encs enc (l ++ m) = encs enc l ++ encs enc m:=by simp [encs]
theorem run_append_xs {P : Program} {w w0 : World} {S ty : TypeId} {i0 : TypeInfo} {z : Value} {bytes : Nat} (ht : P.underlying S = some (.slice T)) (hi : P.info? T = some i0) (hz : i0.zero = some z) (hsize : i0.size = K) (hby : i0.bytes = bytes) (hzs : z.cells.size = K) (hK : 0 < K)
  (hlen : ∀ x,(enc x).length = K) (h1 : ∀ x,∀ u ∈ enc x,u.oneCell' = true) {v : Value} {l m : List α} {A : Option Addr} {n c : Nat} (hown : OwnX enc K T w0 w v l) (hm : m.length = n)
  (hrd : ReadX enc K w A m) (hl : l.length + n ≤ 32000000) (hb : bytes ≤ 1000) :
  ∃ v' w',(Builtin.append_ #[S,S] ty #[v,.slice A n c]).run P w = .ok v' w' ∧ OwnX enc K T w0 w' v' (l ++ m) ∧ w.grownBy w' v.ownBlock:=by
 cases A with
 |none=>
  have h0 : m = []:=Classical.byContradiction fun hne=>by
   obtain ⟨b,o,hA,_⟩:=hrd hne
   cases hA
  subst h0
  obtain rfl : 0 = n:=by simpa using hm
  refine ⟨v,w,?_,by rw [List.append_nil];exact hown,calm_grown (Calm.refl w)⟩
  rcases hown.own.2 with ⟨rfl,h1⟩ | ⟨g,cap,cur,rfl,_,_,hnc,_⟩
  ·simp [Builtin.append_,run_underlying ht,sizeOf,typeInfo,hi,Builtin.lenOf,Builtin.firstCells]
  ·simp [Builtin.append_,run_underlying ht,sizeOf,typeInfo,hi,Builtin.lenOf,Builtin.firstCells,hnc,storeCells]
 |some ad=>
  have hnews : ∀ (j : Nat) (u : Value),(encs enc m)[j]? = some u → w.cell? (ad.add j) = some u:=fun j u hj=>by
   obtain ⟨k,x,i,h2,rfl,h3⟩:=encs_cells hlen m j u hj
   obtain ⟨b,o,hA,_,hk⟩:=hrd (fun e=>by rw [e] at h2;simp at h2)
   obtain rfl:=Option.some.inj hA
   simpa [Addr.add_lit,Nat.add_assoc] using hk k x h2 i u h3
  have h2 : ∀ u ∈ encs enc m,u.oneCell' = true:=fun u hu=>by
   obtain ⟨x,_,hx⟩:=List.mem_flatMap.1 hu
   exact h1 x u hx
  obtain ⟨v',w',hr,h3,h4,_⟩:=run_append_own (P:=P) w w0.heap.size S ty T i0 z K bytes ht hi hz hsize hby hzs hK v l.length (encs enc l) hown.own ad n c (encs enc m) (by rw [encs_len hlen,hm]) hnews h2 (by unfold maxLen;omega) (Nat.le_trans (Nat.mul_le_mul (show l.length + n ≤ 32000000 by omega) hb) (by decide)) hown.calm.size
  exact ⟨v',w',hr,⟨Below.trans hown.calm (owns_below hown.own hown.calm.size h4),by rw [List.length_append,hm,encs_app];exact h3⟩,h4⟩
theorem OwnX.len_shape {α : Type} {enc : α → List Value} {K : Nat} {T : TypeId} {w0 w : World} {v : Value} {l : List α} (h : OwnX enc K T w0 w v l) : ∃ A c,v = .slice A l.length c:=by
 rcases h.own.2 with ⟨rfl,h0⟩ | ⟨g,cap,cur,rfl,_⟩
 ·exact ⟨none,0,by rw [h0]⟩
 ·exact ⟨_,_,rfl⟩
theorem OwnX.base {α : Type} {enc : α → List Value} {K : Nat} {T : TypeId} {w00 w0 w : World} {v : Value} {l : List α} (h : OwnX enc K T w0 w v l) (h0 : Calm w00 w0) : OwnX enc K T w00 w v l:=by
 refine ⟨h0.trans h.calm,h.own.1,?_⟩
 rcases h.own.2 with h2 | ⟨g,cap,cur,hv,hg,hh,r⟩
 ·exact .inl h2
 ·exact .inr ⟨g,cap,cur,hv,Nat.le_trans h0.size hg,hh,r⟩
theorem step_append_xs {S : TypeId} {z : Value} {bytes : Nat} (ht : Tryz.prog.underlying S = some (.slice T)) (hi : (Tryz.prog.info? T).map (fun i=>(i.zero,i.size,i.bytes)) = some (some z,K,bytes)) (hzs : z.cells.size = K) (hK0 : 0 < K) (hb : bytes ≤ 1000)
  (hlen : ∀ x,(enc x).length = K) (h1 : ∀ x,∀ u ∈ enc x,u.oneCell' = true)
  {ops : Array Oper} {o : Oper} {a : Act} {w : World} {R : Act → World → Prop} {Q : Exit → Act → World → Prop} {E : Prop}
  (hg : o.guard = none) (s x : Operand) (hop : o.op = Op.call { callee:=Callee.builtin Builtin.append,args:=#[s,x],argTypes:=#[S,S] })
  (w0 : World) (v : Value) (l m : List α) (hs : a.eval s = v) (hown : OwnX enc K T w0 w v l) (A : Option Addr) (n c : Nat) (hx : a.eval x = .slice A n c) (hm : m.length = n)
  (hrd : ReadX enc K w A m) (hl : l.length + n ≤ 32000000)
  (hK : ∀ v' w',OwnX enc K T w0 w' v' (l ++ m) → w.grownBy w' v.ownBlock → R (a.put o.dst v') w') :
  if Region.wanted o (yielded ops a.tmps) = true then Oper.wp Tryz.prog o a w R Q else E:=by
 have hw : Region.wanted o (yielded ops a.tmps) = true:=by simp [Region.wanted,hg]
 rw [if_pos hw]
 obtain ⟨i0,hi0,hz0,hz1,hz2⟩:=info_parts hi
 obtain ⟨v',w',hr,h2,h3⟩:=run_append_xs (P:=Tryz.prog) (ty:=o.type) (c:=c) ht hi0 hz0 hz1 hz2 hzs hK0 hlen h1 hown hm hrd hl hb
 unfold Oper.wp
 simp [execOp,hop,resolve,invoke,builtin,hs,hx,Result.andThen]
 rw [hr]
 exact hK v' w' h2 h3
theorem wpList_append_xs {S : TypeId} {z : Value} {bytes : Nat} (ht : Tryz.prog.underlying S = some (.slice T)) (hi : (Tryz.prog.info? T).map (fun i=>(i.zero,i.size,i.bytes)) = some (some z,K,bytes)) (hzs : z.cells.size = K) (hK0 : 0 < K) (hb : bytes ≤ 1000)
  (hlen : ∀ x,(enc x).length = K) (h1 : ∀ x,∀ u ∈ enc x,u.oneCell' = true)
  {ops : Array Oper} {rest : List Oper} {o : Oper} {a : Act} {Q : Exit → Act → World → Prop} {w : World} (hgd : o.guard = none) (s x : Operand)
  (ho : o.op = .call { callee:=.builtin .append,args:=#[s,x],argTypes:=#[S,S] }) (w0 : World) (v : Value) (l m : List α) (hs : a.eval s = v) (hown : OwnX enc K T w0 w v l) (A : Option Addr) (n c : Nat) (hx : a.eval x = .slice A n c) (hm : m.length = n)
  (hrd : ReadX enc K w A m) (hl : l.length + n ≤ 32000000)
  (h : ∀ v' w',OwnX enc K T w0 w' v' (l ++ m) → w.grownBy w' v.ownBlock → wpList Tryz.prog ops Q rest (a.put o.dst v') w') : wpList Tryz.prog ops Q (o :: rest) a w:=by
 refine wpList_plain hgd fun _ hK=>?_
 obtain ⟨i0,hi0,hz0,hz1,hz2⟩:=info_parts hi
 obtain ⟨v',w',hr,h2,h3⟩:=run_append_xs (P:=Tryz.prog) (ty:=o.type) (c:=c) ht hi0 hz0 hz1 hz2 hzs hK0 hlen h1 hown hm hrd hl hb
 unfold Oper.wp execOp
 simp only [ho,resolve,invoke,builtin,Sem.run_bind,Sem.run_pure,Result.andThen_ok,List.map_toArray,List.map_cons,List.map_nil,hs,hx]
 rw [hr]
 exact hK _ _ (h v' w' h2 h3)
end Go.Proofs.YthopphabeddnfaaGreatDoor
set_option linter.unusedVariables false
set_option linter.unusedSimpArgs false
namespace Go.Proofs.YthopphabeddnfaaGreatDoor
open Go Go.RowKit Sy

variable {α : Type} {enc : α → List Value} {K : Nat} {T : TypeId}
structure PatsX (w : World) (A : Option Addr) (l : List NewP) : Prop where
 each : ∀ x ∈ l,PatA w x.A x.c x.p
 read : ReadX encP 2 w A l
theorem PatsX.calm {w w' : World} {A : Option Addr} {l : List NewP} (h : PatsX w A l) (hc : Calm w w') : PatsX w' A l:=⟨fun x hx=>(h.each x hx).calm hc,h.read.calm hc⟩
theorem PatsX.reads {w : World} {A : Option Addr} {l : List NewP} (h : PatsX w A l) (hl : l.length ≤ 4194304) : PatsR w A (l.map (·.p)):=by
 refine ⟨by rw [List.length_map];exact hl,fun h0=>?_⟩
 rw [List.length_map] at h0
 obtain ⟨b,o,hA,hb,hk⟩:=h.read (List.length_pos_iff.1 h0)
 refine ⟨b,o,hA,hb,fun k p hp=>?_⟩
 rw [List.getElem?_map] at hp
 obtain ⟨x,hx,rfl⟩:=Option.map_eq_some_iff.1 hp
 have hpa:=h.each x (List.mem_of_getElem? hx)
 exact ⟨x.A,x.c,hk k x hx 0 _ rfl,hk k x hx 1 _ rfl,hpa.room,hpa.cap,hpa.r⟩
theorem PatsR.places {w : World} {A : Option Addr} {ps : List Pat} (h : PatsR w A ps) : ∃ l : List NewP,l.map (·.p) = ps ∧ PatsX w A l:=by
 rcases Nat.eq_zero_or_pos ps.length with h0 | h0
 ·have : ps = []:=List.eq_nil_of_length_eq_zero h0
  subst this
  exact ⟨[],rfl,(fun x hx=>by cases hx),fun hne=>absurd rfl hne⟩
 ·obtain ⟨b,o,hA,hb,hc⟩:=h.at_ h0
  have hex : ∀ k : Fin ps.length,∃ r : NewP,r.p = ps[k] ∧ PatA w r.A r.c r.p ∧ w.cell? ⟨b,o + k.val * 2,none⟩ = some (.slice r.A r.p.parts.length r.c) ∧ w.cell? ⟨b,o + k.val * 2 + 1,none⟩ = some (.bool r.p.rest):=fun k=>by
   obtain ⟨Ak,ck,g1,g2,g3,g4,g5⟩:=hc k.val _ (List.getElem?_eq_getElem k.isLt)
   exact ⟨⟨Ak,ck,ps[k]⟩,rfl,⟨g5,g3,g4⟩,g1,g2⟩
  let f : Fin ps.length → NewP:=fun k=>Classical.choose (hex k)
  have hf : ∀ k,(f k).p = ps[k] ∧ PatA w (f k).A (f k).c (f k).p ∧ w.cell? ⟨b,o + k.val * 2,none⟩ = some (.slice (f k).A (f k).p.parts.length (f k).c) ∧ w.cell? ⟨b,o + k.val * 2 + 1,none⟩ = some (.bool (f k).p.rest):=fun k=>Classical.choose_spec (hex k)
  refine ⟨List.ofFn f,?_,fun x hx=>?_,fun _=>⟨b,o,hA,hb,fun k x hk i u hu=>?_⟩⟩
  ·apply List.ext_getElem
   ·simp
   ·intro j h1 h2
    simp only [List.getElem_map,List.getElem_ofFn]
    exact (hf ⟨j,h2⟩).1
  ·obtain ⟨k,rfl⟩:=List.mem_ofFn.1 hx
   exact (hf k).2.1
  ·obtain ⟨hlt,he⟩:=List.getElem?_eq_some_iff.1 hk
   simp only [List.getElem_ofFn] at he
   have hlt2 : k < ps.length:=by simpa using hlt
   have:=hf ⟨k,hlt2⟩
   rw [he] at this
   match i,hu with
   |0,hu=>obtain rfl:=Option.some.inj hu;exact this.2.2.1
   |1,hu=>obtain rfl:=Option.some.inj hu;exact this.2.2.2
   |i + 2,hu=>simp [encP] at hu
theorem PatsN.places {w : World} {B : Nat} {A : Option Addr} {c : Nat} {ps : List Pat} (h : PatsN w B A c ps) : ∃ l : List NewP,l.map (·.p) = ps ∧ PatsX w A l:=by
 obtain ⟨l,h1,h2,h3⟩:=h.ex
 refine ⟨l,h1,fun x hx=>(h3 x hx).a,fun hne=>?_⟩
 rcases h2 with ⟨_,h2⟩ | ⟨g,hA,hg,hr⟩
 ·rw [h2,List.map_eq_nil_iff] at h1
  exact absurd h1 hne
 ·exact ⟨g,0,hA,hr.lt,hr.cell⟩
theorem PatsN.reads {w : World} {B : Nat} {A : Option Addr} {c : Nat} {ps : List Pat} (h : PatsN w B A c ps) (hl : ps.length ≤ 4194304) : PatsR w A ps:=by
 obtain ⟨l,h1,h2⟩:=h.places
 rw [← h1] at hl ⊢
 rw [List.length_map] at hl
 exact h2.reads hl
theorem OwnX.places {w0 wr : World} {v : Value} {l : List NewP} (h : OwnX encP 2 37 w0 wr v l) (he : ∀ x ∈ l,PatA wr x.A x.c x.p) : ∃ A c,v = .slice A l.length c ∧ l.length ≤ c ∧ c ≤ 9223372036854775807 ∧ PatsX wr A l:=by
 rcases h.row encP_len with ⟨rfl,h0⟩ | ⟨g,c,rfl,h1,h2,_,hr⟩
 ·subst h0
  exact ⟨none,0,rfl,Nat.le_refl _,by omega,he,fun hne=>absurd rfl hne⟩
 ·exact ⟨_,c,rfl,h1,h2,he,fun _=>⟨g,0,rfl,hr.lt,hr.cell⟩⟩
theorem wpList_append_ps {ops : Array Oper} {rest : List Oper} {o : Oper} {a : Act} {Q : Exit → Act → World → Prop} {w : World} (hgd : o.guard = none) (s x : Operand)
  (ho : o.op = .call { callee:=.builtin .append,args:=#[s,x],argTypes:=#[38,38] }) (w0 : World) (v : Value) (l m : List NewP) (hs : a.eval s = v) (hown : OwnX encP 2 37 w0 w v l) (A : Option Addr) (n c : Nat) (hx : a.eval x = .slice A n c) (hm : m.length = n)
  (hrd : ReadX encP 2 w A m) (hl : l.length + n ≤ 16000000)
  (h : ∀ v' w',OwnX encP 2 37 w0 w' v' (l ++ m) → w.grownBy w' v.ownBlock → wpList Tryz.prog ops Q rest (a.put o.dst v') w') : wpList Tryz.prog ops Q (o :: rest) a w:=by
 refine wpList_plain hgd fun _ hK=>?_
 obtain ⟨i0,hi0,hz0,hz1,hz2⟩:=info_parts info_patE
 obtain ⟨v',w',hr,h2,h3⟩:=run_append_xs (P:=Tryz.prog) (ty:=o.type) (c:=c) Tryz.underlying38 hi0 hz0 hz1 hz2 rfl (by decide) encP_len encP_one hown hm hrd (by omega) (by decide)
 unfold Oper.wp execOp
 simp only [ho,resolve,invoke,builtin,Sem.run_bind,Sem.run_pure,Result.andThen_ok,List.map_toArray,List.map_cons,List.map_nil,hs,hx]
 rw [hr]
 exact hK _ _ (h v' w' h2 h3)
theorem PatsN.set {w : World} {B : Nat} {A : Option Addr} {c : Nat} {ps : List Pat} (h : PatsN w B A c ps) {p : Addr} (u : Value) (hp : p.block < B) : PatsN (w.setCell p u) B A c ps:=by
 obtain ⟨l,h1,h2,h3⟩:=h.ex
 refine ⟨⟨l,h1,?_,fun x hx=>(h3 x hx).set u hp⟩,h.room,h.cap⟩
 rcases h2 with h2 | ⟨g,hA,hg,hr⟩
 ·exact .inl h2
 ·exact .inr ⟨g,hA,hg,hr.of_block (Deep.blk_setCell_other _ _ _ _ (by omega))⟩
theorem PatsN.mono {w : World} {B B' : Nat} {A : Option Addr} {c : Nat} {ps : List Pat} (h : PatsN w B A c ps) (hB : B' ≤ B) : PatsN w B' A c ps:=by
 obtain ⟨l,h1,h2,h3⟩:=h.ex
 refine ⟨⟨l,h1,?_,fun x hx=>(h3 x hx).mono hB⟩,h.room,h.cap⟩
 rcases h2 with h2 | ⟨g,hA,hg,hr⟩
 ·exact .inl h2
 ·exact .inr ⟨g,hA,Nat.le_trans hB hg,hr⟩
theorem PatsN.calm {w w' : World} {B : Nat} {A : Option Addr} {c : Nat} {ps : List Pat} (h : PatsN w B A c ps) (hc : Calm w w') : PatsN w' B A c ps:=by
 obtain ⟨l,h1,h2,h3⟩:=h.ex
 refine ⟨⟨l,h1,?_,fun x hx=>(h3 x hx).calm hc⟩,h.room,h.cap⟩
 rcases h2 with h2 | ⟨g,hA,hg,hr⟩
 ·exact .inl h2
 ·exact .inr ⟨g,hA,hg,hr.calm hc⟩

theorem PatsN.own {w w' : World} {B : Nat} {A : Option Addr} {c : Nat} {ps : List Pat} (h : PatsN w B A c ps) {B0 n K : Nat} {v : Value} {T : TypeId} {xs : List Value} (hT : 37 ≠ T) (hS : 9 ≠ T) (hown : w.ownsRow B0 T K v n xs) (hg : w.grownBy w' v.ownBlock) : PatsN w' B A c ps:=by
 obtain ⟨l,h1,h2,h3⟩:=h.ex
 refine ⟨⟨l,h1,?_,fun x hx=>(h3 x hx).own hS hown hg⟩,h.room,h.cap⟩
 rcases h2 with h2 | ⟨g,hA,hgB,hr⟩
 ·exact .inl h2
 ·refine .inr ⟨g,hA,hgB,hr.grown hg fun e=>?_⟩
  obtain ⟨cs,hh⟩:=hr.kind
  rcases hown.2 with ⟨rfl,_⟩ | ⟨g',cap,cur,rfl,_,hgh,_⟩
  ·simp [Value.ownBlock] at e
  ·have e2 : g = g':=by simpa [Value.ownBlock] using e
   rw [e2,hgh] at hh
   injection hh with hh
   injection hh with _ ht
   exact hT ht.symm
end Go.Proofs.YthopphabeddnfaaGreatDoor
