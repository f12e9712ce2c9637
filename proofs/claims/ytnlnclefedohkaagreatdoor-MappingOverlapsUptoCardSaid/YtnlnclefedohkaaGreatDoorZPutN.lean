/- Walk: mapping.put; what is no cells beyond the collection lies as it lay. -/
import Derived.RangeFuncWrites
import Derived.Test.YtnlnclefedohkaaGreatDoorZColE
import Derived.Test.YtnlnclefedohkaaGreatDoorZPutA
set_option linter.unusedVariables false
set_option linter.unusedSimpArgs false
namespace Go.Proofs.YtnlnclefedohkaaGreatDoor
open Go Go.RowKit Sy
def Fresh (w : World) (v v' : Value) : Prop:=v'.ownBlock = v.ownBlock ∨ ∃ g,v'.ownBlock = some g ∧ w.heap.size ≤ g
theorem Fresh.of {w w2 : World} {v v' : Value} (hc : Calm w w2) (h : Fresh w2 v v') : Fresh w v v':=h.imp id fun ⟨g,hg,hl⟩=>⟨g,hg,Nat.le_trans hc.size hl⟩
section
variable {α : Type} {enc : α → List Value} {K : Nat} {T : TypeId}
theorem append_fresh {P : Program} {w w0 w' : World} {S ty : TypeId} {i0 : TypeInfo} {z : Value} {bytes : Nat} (ht : P.underlying S = some (.slice T)) (hi : P.info? T = some i0) (hz : i0.zero = some z) (hsize : i0.size = K) (hby : i0.bytes = bytes) (hzs : z.cells.size = K) (hK : 0 < K)
  (hlen : ∀ x,(enc x).length = K) (h1 : ∀ x,∀ u ∈ enc x,u.oneCell' = true) {v v' : Value} {l m : List α} {A : Option Addr} {n c : Nat} (hown : OwnX enc K T w0 w v l) (hm : m.length = n)
  (hrd : ReadX enc K w A m) (hl : l.length + n ≤ 2000000) (hb : bytes ≤ 1000) (hr : (Builtin.append_ #[S,S] ty #[v,.slice A n c]).run P w = .ok v' w') : Fresh w v v':=by
 cases A with
 |none=>
  have h0 : m = []:=Classical.byContradiction fun hne=>by
   obtain ⟨b,o,hA,_⟩:=hrd hne
   cases hA
  subst h0
  obtain rfl : 0 = n:=by simpa using hm
  rcases hown.own.2 with ⟨rfl,h1⟩ | ⟨g,cap,cur,rfl,_,_,hnc,_⟩
  ·simp [Builtin.append_,run_underlying ht,sizeOf,typeInfo,hi,Builtin.lenOf,Builtin.firstCells] at hr
   exact .inl (by rw [← hr.1])
  ·simp [Builtin.append_,run_underlying ht,sizeOf,typeInfo,hi,Builtin.lenOf,Builtin.firstCells,hnc,storeCells] at hr
   exact .inl (by rw [← hr.1])
 |some ad=>
  have hnews : ∀ (j : Nat) (u : Value),(encs enc m)[j]? = some u → w.cell? (ad.add j) = some u:=fun j u hj=>by
   obtain ⟨k,x,i,h2,rfl,h3⟩:=encs_cells hlen m j u hj
   obtain ⟨b,o,hA,_,hk⟩:=hrd (fun e=>by rw [e] at h2;simp at h2)
   obtain rfl:=Option.some.inj hA
   simpa [Addr.add_lit,Nat.add_assoc] using hk k x h2 i u h3
  have h2 : ∀ u ∈ encs enc m,u.oneCell' = true:=fun u hu=>by
   obtain ⟨x,_,hx⟩:=List.mem_flatMap.1 hu
   exact h1 x u hx
  have hnl : (encs enc m).length = n * i0.size:=by rw [hsize,encs_len hlen,hm]
  subst hsize
  subst hby
  rcases hown.own.2 with ⟨rfl,h0⟩ | ⟨g,cap,cur,rfl,hbg,hg,hnc,hcm,hcs,htake⟩
  ·rw [h0] at hl
   by_cases hn : n = 0
   ·subst hn
    have he : encs enc m = []:=List.eq_nil_of_length_eq_zero (by simpa using hnl)
    simp [Builtin.append_,run_underlying ht,sizeOf,typeInfo,hi,Builtin.lenOf,Builtin.firstCells,loadCells,loadCellsFrom] at hr
    exact .inl (by rw [← hr.1])
   ·have h48 : n * i0.bytes ≤ 281474976710656:=Nat.le_trans (Nat.mul_le_mul (show n ≤ 2000000 by omega) hb) (by decide)
    rw [run_append_nil (P:=P) w S ty T i0 z ht hi hz ad n c (encs enc m) hnl hnews (by omega) (by omega) h48] at hr
    simp only [Result.ok.injEq] at hr
    obtain ⟨rfl,_⟩:=hr
    exact .inr ⟨_,rfl,Nat.le_refl _⟩
  ·by_cases hroom : l.length + n ≤ cap
   ·have hfit : l.length * i0.size + (encs enc m).length ≤ cur.size:=by rw [hnl,hcs,← Nat.add_mul];exact Nat.mul_le_mul_right _ hroom
    rw [run_append_room (P:=P) w S ty T i0 ht hi g l.length cap cur hg ad n c (encs enc m) hnl hnews h2 hroom hfit] at hr
    simp only [Result.ok.injEq] at hr
    obtain ⟨rfl,_⟩:=hr
    exact .inl rfl
   ·have holds : ∀ j u,(encs enc l)[j]? = some u → w.cell? ((⟨g,0,none⟩ : Addr).add j) = some u:=hown.own.cells (g:=g) rfl
    rw [run_append_grow (P:=P) w S ty T i0 z ht hi hz ⟨g,0,none⟩ l.length cap (encs enc l) hown.own.1 holds ad n c (encs enc m) hnl hnews (by omega) (by omega) (growslice_fits (by omega) (Nat.le_trans (Nat.mul_le_mul (show l.length + n ≤ 2000000 by omega) hb) (by decide)))] at hr
    simp only [Result.ok.injEq] at hr
    obtain ⟨rfl,_⟩:=hr
    exact .inr ⟨_,rfl,Nat.le_refl _⟩
theorem step_append_xf {S : TypeId} {z : Value} {bytes : Nat} (ht : Tryz.prog.underlying S = some (.slice T)) (hi : (Tryz.prog.info? T).map (fun i=>(i.zero,i.size,i.bytes)) = some (some z,K,bytes)) (hzs : z.cells.size = K) (hK0 : 0 < K) (hb : bytes ≤ 1000)
  (hlen : ∀ x,(enc x).length = K) (h1 : ∀ x,∀ u ∈ enc x,u.oneCell' = true)
  {ops : Array Oper} {o : Oper} {a : Act} {w : World} {R : Act → World → Prop} {Q : Exit → Act → World → Prop} {E : Prop}
  (hg : o.guard = none) (s x : Operand) (hop : o.op = Op.call { callee:=Callee.builtin Builtin.append,args:=#[s,x],argTypes:=#[S,S] })
  (w0 : World) (v : Value) (l m : List α) (hs : a.eval s = v) (hown : OwnX enc K T w0 w v l) (A : Option Addr) (n c : Nat) (hx : a.eval x = .slice A n c) (hm : m.length = n)
  (hrd : ReadX enc K w A m) (hl : l.length + n ≤ 2000000)
  (hK : ∀ v' w',OwnX enc K T w0 w' v' (l ++ m) → w.grownBy w' v.ownBlock → Fresh w v v' → R (a.put o.dst v') w') :
  if Region.wanted o (yielded ops a.tmps) = true then Oper.wp Tryz.prog o a w R Q else E:=by
 have hw : Region.wanted o (yielded ops a.tmps) = true:=by simp [Region.wanted,hg]
 rw [if_pos hw]
 obtain ⟨i0,hi0,hz0,hz1,hz2⟩:=info_parts hi
 obtain ⟨v',w',hr,h2,h3⟩:=run_append_xs (P:=Tryz.prog) (ty:=o.type) (c:=c) ht hi0 hz0 hz1 hz2 hzs hK0 hlen h1 hown hm hrd hl hb
 have hf:=append_fresh (P:=Tryz.prog) (ty:=o.type) (c:=c) ht hi0 hz0 hz1 hz2 hzs hK0 hlen h1 hown hm hrd hl hb hr
 unfold Oper.wp
 simp [execOp,hop,resolve,invoke,builtin,hs,hx,Result.andThen]
 rw [hr]
 exact hK v' w' h2 h3 hf
end
end Go.Proofs.YtnlnclefedohkaaGreatDoor
set_option linter.unusedVariables false
set_option linter.unusedSimpArgs false
namespace Go.Proofs.YtnlnclefedohkaaGreatDoor
open Go Go.RowKit Sy

theorem OwnX.cellsBlock {α : Type} {enc : α → List Value} {K : Nat} {T : TypeId} {w0 w : World} {v : Value} {l : List α} (h : OwnX enc K T w0 w v l) {b : Nat} {o : Obj} (hb : some b = v.ownBlock) (ho : w.heap[b]? = some o) : ∃ cs,o = .cells cs T (0,0):=by
 rcases h.own.2 with ⟨rfl,_⟩ | ⟨g,cap,cur,rfl,hg,hh,_⟩
 ·cases hb
 ·obtain rfl : b = g:=Option.some.inj hb
  rw [hh] at ho
  exact ⟨cur,(Option.some.inj ho).symm⟩
def Free (G : Nat) (w : World) (b : Nat) : Prop:=b ≠ G ∧ ∀ v,w.cell? ⟨G,0,none⟩ = some v → some b ≠ v.ownBlock
def RowIn (G : Nat) (w : World) : Prop:=∀ v,w.cell? ⟨G,0,none⟩ = some v → ∀ g,v.ownBlock = some g → g < w.heap.size
structure KeepR (w w' : World) (G : Nat) : Prop where
 size : w.heap.size ≤ w'.heap.size
 free : ∀ (b : Nat) cs T x,w.heap[b]? = some (.cells cs T x) → Free G w b → w'.heap[b]? = some (.cells cs T x) ∧ Free G w' b
 row : RowIn G w → RowIn G w'
theorem KeepR.trans {w w2 w3 : World} {G : Nat} (h : KeepR w w2 G) (k : KeepR w2 w3 G) : KeepR w w3 G:=
 ⟨Nat.le_trans h.size k.size,fun b cs T x hb hf=>by
  obtain ⟨h1,h2⟩:=h.free b cs T x hb hf
  exact k.free b cs T x h1 h2,fun hr=>k.row (h.row hr)⟩
theorem cell_back {w w' : World} {G : Nat} (hG : w'.heap[G]? = w.heap[G]?) {v : Value} (h : w'.cell? ⟨G,0,none⟩ = some v) : w.cell? ⟨G,0,none⟩ = some v:=(World.cell?_of_block (a:=⟨G,0,none⟩) hG).symm.trans h
theorem KeepR.calm {w w' : World} {G : Nat} (hG : G < w.heap.size) (h : Calm w w') : KeepR w w' G:=
 ⟨h.size,fun b cs T x hb hf=>⟨(h.block b (heap_lt hb)).trans hb,hf.1,fun v hv=>hf.2 v (cell_back (h.block G hG) hv)⟩,fun hr v hv g hg=>Nat.lt_of_lt_of_le (hr v (cell_back (h.block G hG) hv) g hg) h.size⟩
theorem KeepR.set1 (w : World) (G : Nat) (u : Value) : KeepR w (w.setCell ⟨G,1,none⟩ u) G:=by
 have hc : (w.setCell ⟨G,1,none⟩ u).cell? ⟨G,0,none⟩ = w.cell? ⟨G,0,none⟩:=World.cell?_setCell_other _ _ _ _ (by simp)
 refine ⟨by simp,fun b cs T x hb hf=>⟨?_,hf.1,fun v hv=>hf.2 v (hc.symm.trans hv)⟩,fun hr v hv g hg=>?_⟩
 ·rw [Deep.blk_setCell_other _ _ _ _ (fun e=>hf.1 e)]
  exact hb
 ·have:=hr v (hc.symm.trans hv) g hg
  simpa using this
end Go.Proofs.YtnlnclefedohkaaGreatDoor
