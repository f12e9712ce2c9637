/- Walk: mapping.put; what is no cells beyond the collection lies as it lay. -/
import Derived.RangeFuncWrites
import Derived.Test.YtdcdabbepnahnaaGreatDoorZOutM
set_option linter.unusedVariables false
set_option linter.unusedSimpArgs false
namespace Go.Proofs.YtdcdabbepnahnaaGreatDoor
open Go Go.RowKit Sy
def Fresh (w : World) (v v' : Value) : Prop:=v'.ownBlock = v.ownBlock ∨ ∃ g,v'.ownBlock = some g ∧ w.heap.size ≤ g
theorem Fresh.of {w w2 : World} {v v' : Value} (hc : Calm w w2) (h : Fresh w2 v v') : Fresh w v v':=h.imp id fun ⟨g,hg,hl⟩=>⟨g,hg,Nat.le_trans hc.size hl⟩
section
variable {α : Type} {enc : α → List Value} {K : Nat} {T : TypeId}
theorem append_fresh {P : Program} {w w0 w' : World} {S ty : TypeId} {i0 : TypeInfo} {z : Value} {bytes : Nat} (ht : P.underlying S = some (.slice T)) (hi : P.info? T = some i0) (hz : i0.zero = some z) (hsize : i0.size = K) (hby : i0.bytes = bytes) (hzs : z.cells.size = K) (hK : 0 < K)
  (hlen : ∀ x,(enc x).length = K) (h1 : ∀ x,∀ u ∈ enc x,u.oneCell' = true) {v v' : Value} {l m : List α} {A : Option Addr} {n c : Nat} (hown : OwnX enc K T w0 w v l) (hm : m.length = n)
  (hrd : ReadX enc K w A m) (hl : l.length + n ≤ 2000000) (hb : bytes ≤ 1000) (hr : (Builtin.append_ #[S,S] ty #[v,.slice A n c]).run P w = .ok v' w') : Fresh w v v':=by
 cases A with
 |none=>
  have h0 : m = []:=Classical.byContradiction fun hne=>by
   obtain ⟨b,o,hA,_⟩:=hrd hne
   cases hA
  subst h0
  obtain rfl : 0 = n:=by simpa using hm
  rcases hown.own.2 with ⟨rfl,h1⟩ | ⟨g,cap,cur,rfl,_,_,hnc,_⟩
  ·simp [Builtin.append_,run_underlying ht,sizeOf,typeInfo,hi,Builtin.lenOf,Builtin.firstCells] at hr
   exact .inl (by rw [← hr.1])
  ·simp [Builtin.append_,run_underlying ht,sizeOf,typeInfo,hi,Builtin.lenOf,Builtin.firstCells,hnc,storeCells] at hr
   exact .inl (by rw [← hr.1])
 |some ad=>
  have hnews : ∀ (j : Nat) (u : Value),(encs enc m)[j]? = some u → w.cell? (ad.add j) = some u:=fun j u hj=>by
   obtain ⟨k,x,i,h2,rfl,h3⟩:=encs_cells hlen m j u hj
   obtain ⟨b,o,hA,_,hk⟩:=hrd (fun e=>by rw [e] at h2;simp at h2)
   obtain rfl:=Option.some.inj hA
   simpa [Addr.add_lit,Nat.add_assoc] using hk k x h2 i u h3
  have h2 : ∀ u ∈ encs enc m,u.oneCell' = true:=fun u hu=>by
   obtain ⟨x,_,hx⟩:=List.mem_flatMap.1 hu
   exact h1 x u hx
  have hnl : (encs enc m).length = n * i0.size:=by rw [hsize,encs_len hlen,hm]
  subst hsize
  subst hby
  rcases hown.own.2 with ⟨rfl,h0⟩ | ⟨g,cap,cur,rfl,hbg,hg,hnc,hcm,hcs,htake⟩
  ·rw [h0] at hl
   by_cases hn : n = 0
   ·subst hn
    have he : encs enc m = []:=List.eq_nil_of_length_eq_zero (by simpa using hnl)
    simp [Builtin.append_,run_underlying ht,sizeOf,typeInfo,hi,Builtin.lenOf,Builtin.firstCells,loadCells,loadCellsFrom] at hr
    exact .inl (by rw [← hr.1])
   ·have h48 : n * i0.bytes ≤ 281474976710656:=Nat.le_trans (Nat.mul_le_mul (show n ≤ 2000000 by omega) hb) (by decide)
    rw [run_append_nil (P:=P) w S ty T i0 z ht hi hz ad n c (encs enc m) hnl hnews (by omega) (by omega) h48] at hr
    simp only [Result.ok.injEq] at hr
    obtain ⟨rfl,_⟩:=hr
    exact .inr ⟨_,rfl,Nat.le_refl _⟩
  ·by_cases hroom : l.length + n ≤ cap
   ·have hfit : l.length * i0.size + (encs enc m).length ≤ cur.size:=by rw [hnl,hcs,← Nat.add_mul];exact Nat.mul_le_mul_right _ hroom
    rw [run_append_room (P:=P) w S ty T i0 ht hi g l.length cap cur hg ad n c (encs enc m) hnl hnews h2 hroom hfit] at hr
    simp only [Result.ok.injEq] at hr
    obtain ⟨rfl,_⟩:=hr
    exact .inl rfl
   ·have holds : ∀ j u,(encs enc l)[j]? = some u → w.cell? ((⟨g,0,none⟩ : Addr).add j) = some u:=hown.own.cells (g:=g) rfl
    rw [run_append_grow (P:=P) w S ty T i0 z ht hi hz ⟨g,0,none⟩ l.length cap (encs enc l) hown.own.1 holds ad n c (encs enc m) hnl hnews (by omega) (by omega) (growslice_fits (by omega) (Nat.le_trans (Nat.mul_le_mul (show l.length + n ≤ 2000000 by omega) hb) (by decide)))] at hr
    simp only [Result.ok.injEq] at hr
    obtain ⟨rfl,_⟩:=hr
    exact .inr ⟨_,rfl,Nat.le_refl _⟩
theorem step_append_xf {S : TypeId} {z : Value} {bytes : Nat} (ht : Tryz.prog.underlying S = some (.slice T)) (hi : (Tryz.prog.info? T).map (fun i=>(i.zero,i.size,i.bytes)) = some (some z,K,bytes)) (hzs : z.cells.size = K) (hK0 : 0 < K) (hb : bytes ≤ 1000)
  (hlen : ∀ x,(enc x).length = K) (h1 : ∀ x,∀ u ∈ enc x,u.oneCell' = true)
  {ops : Array Oper} {o : Oper} {a : Act} {w : World} {R : Act → World → Prop} {Q : Exit → Act → World → Prop} {E : Prop}
  (hg : o.guard = none) (s x : Operand) (hop : o.op = Op.call { callee:=Callee.builtin Builtin.append,args:=#[s,x],argTypes:=#[S,S] })
  (w0 : World) (v : Value) (l m : List α) (hs : a.eval s = v) (hown : OwnX enc K T w0 w v l) (A : Option Addr) (n c : Nat) (hx : a.eval x = .slice A n c) (hm : m.length = n)
  (hrd : ReadX enc K w A m) (hl : l.length + n ≤ 2000000)
  (hK : ∀ v' w',OwnX enc K T w0 w' v' (l ++ m) → w.grownBy w' v.ownBlock → Fresh w v v' → R (a.put o.dst v') w') :
  if Region.wanted o (yielded ops a.tmps) = true then Oper.wp Tryz.prog o a w R Q else E:=by
 have hw : Region.wanted o (yielded ops a.tmps) = true:=by simp [Region.wanted,hg]
 rw [if_pos hw]
 obtain ⟨i0,hi0,hz0,hz1,hz2⟩:=info_parts hi
 obtain ⟨v',w',hr,h2,h3⟩:=run_append_xs (P:=Tryz.prog) (ty:=o.type) (c:=c) ht hi0 hz0 hz1 hz2 hzs hK0 hlen h1 hown hm hrd hl hb
 have hf:=append_fresh (P:=Tryz.prog) (ty:=o.type) (c:=c) ht hi0 hz0 hz1 hz2 hzs hK0 hlen h1 hown hm hrd hl hb hr
 unfold Oper.wp
 simp [execOp,hop,resolve,invoke,builtin,hs,hx,Result.andThen]
 rw [hr]
 exact hK v' w' h2 h3 hf
end
set_option maxHeartbeats 4000000 in
theorem addE_f (w0 w : World) (G : Nat) (v : Value) (zs : List NewE) (z : NewE) (nl nr hn : Nat) (lr rr : Bool) (h : ColE w0 w G v zs) (hz : EntN w (G + 1) z) (hl : zs.length < 32) (hnl : z.e.left.parts.length = nl) (hnr : z.e.right.parts.length = nr) (hhn : z.e.hs.length = hn) (hlr : z.e.left.rest = lr) (hrr : z.e.right.rest = rr) :
  Calls Tryz.prog 87 #[.pointer (some ⟨G,0,none⟩),entV z.LA z.RA z.HA nl z.lc nr z.rc hn z.hc lr rr] w fun e w'=>e = .returned (.tuple #[]) ∧ ∃ v',(ColE w0 w' G v' (zs ++ [z]) ∧ FrE w w' G v) ∧ Fresh w v v':=by
 obtain ⟨A,c,hv,_,_,_⟩:=h.shape
 obtain ⟨Z,hZ⟩ : ∃ Z,zs.length = Z:=⟨_,rfl⟩
 rw [hZ] at hl hv
 subst hv
 have HH:=Lib.hid h
 have HZ:=Lib.hid hz
 have HN:=Lib.hid (And.intro hnl (And.intro hnr (And.intro hhn (And.intro hlr hrr))))
 have HL:=Lib.hid hZ
 obtain ⟨w1,hw1⟩ : ∃ w1,w1 = w.alloc (.cells #[.slice z.LA nl z.lc,.bool lr,.slice z.RA nr z.rc,.bool rr,.slice z.HA hn z.hc] 73):=⟨_,rfl⟩
 obtain ⟨B,hB⟩ : ∃ B,w.heap.size = B:=⟨_,rfl⟩
 have hc1 : Calm w w1:=by rw [hw1];exact (Calm.refl _).alloc _
 have hb1 : FiveB w1 B (.slice z.LA nl z.lc) (.bool lr) (.slice z.RA nr z.rc) (.bool rr) (.slice z.HA hn z.hc):=by
  rw [hw1,← hB]
  exact FiveB.new w _ _ _ _ _ _
 have hzw1 : EntN w1 (G + 1) z:=hz.calm hc1
 have HZ1:=Lib.hid hzw1
 have hh1:=h.calm hc1
 have kw0:=h.c0
 have hGw:=h.lt
 have k0:=hh1.c0
 have k1:=hh1.c1
 have f0:=hh1.f 0
 have b0:=hb1.c0
 have b1:=hb1.c1
 have b2:=hb1.c2
 have b3:=hb1.c3
 have b4:=hb1.c4
 have HW:=Lib.hid hw1
 have HBs:=Lib.hid hB
 have HC:=Lib.hid hc1
 have HB1:=Lib.hid hb1
 have HH1:=Lib.hid hh1
 clear h hz hzw1 hnl hnr hhn hlr hrr hZ hw1 hc1 hb1 hh1 hB
 have hne : ((Z : Int) == 32) = false:=by
  rw [beq_eq_false_iff_ne]
  omega
 have HK : Hid (∀ W,Calm w1 W → W.cell? ⟨G,0,none⟩ = some (.slice A Z c) ∧ W.cell? ⟨B,0,none⟩ = some (.slice z.LA nl z.lc) ∧ W.cell? ⟨B,1,none⟩ = some (.bool lr) ∧ W.cell? ⟨B,2,none⟩ = some (.slice z.RA nr z.rc) ∧ W.cell? ⟨B,3,none⟩ = some (.bool rr) ∧ W.cell? ⟨B,4,none⟩ = some (.slice z.HA hn z.hc)):=fun W hW=>
  have hb:=HB1.out.calm hW
  ⟨(HH1.out.calm hW).c0,hb.c0,hb.c1,hb.c2,hb.c3,hb.c4⟩
 go_enter Tryz.func87,Tryz.ntmps87
 go_wp2_with fail
 rw [← HW.out,HBs.out]
 have HSF : Hid (∀ W W' : World,Calm w1 W → W.grownBy W' (Value.slice A Z c).ownBlock → W'.cell? ⟨G,0,none⟩ = some (.slice A Z c) ∧ W'.frozen? ⟨G,0,none⟩ = false):=fun W W' hW hg=>HH1.out.after hW hg
 have HKB : Hid (∀ W W' : World,Calm w1 W → W.grownBy W' (Value.slice A Z c).ownBlock → W'.cell? ⟨B,0,none⟩ = some (.slice z.LA nl z.lc) ∧ W'.cell? ⟨B,1,none⟩ = some (.bool lr) ∧ W'.cell? ⟨B,2,none⟩ = some (.slice z.RA nr z.rc) ∧ W'.cell? ⟨B,3,none⟩ = some (.bool rr) ∧ W'.cell? ⟨B,4,none⟩ = some (.slice z.HA hn z.hc)):=fun W W' hW hg=>by
  have hb:=HB1.out.calm hW
  have hk:=hg.block B hb.lt (fun e=>by
   have h1:=HH.out.own.blk_lt e
   have h2:=HBs.out
   omega)
  exact ⟨(World.cell?_of_block (a:=⟨B,0,none⟩) hk).trans hb.c0,(World.cell?_of_block (a:=⟨B,1,none⟩) hk).trans hb.c1,(World.cell?_of_block (a:=⟨B,2,none⟩) hk).trans hb.c2,(World.cell?_of_block (a:=⟨B,3,none⟩) hk).trans hb.c3,(World.cell?_of_block (a:=⟨B,4,none⟩) hk).trans hb.c4⟩
 have hG1:=HH1.out.lt
 have kd0 : w1.drew.cell? ⟨G,0,none⟩ = some (.slice A Z c):=(HK.out _ (Below.drew (Calm.refl _))).1
 have hBG : ¬ B = G:=by
  have h1:=HH.out.lt
  have h2:=HBs.out
  omega
 have hGB : ¬ G = B:=fun e=>hBG e.symm
 have HSet : Hid (∀ W W' : World,∀ u,Calm w1 W → W.grownBy W' (Value.slice A Z c).ownBlock → (W'.setCell ⟨G,0,none⟩ u).cell? ⟨B,0,none⟩ = some (.slice z.LA nl z.lc) ∧ (W'.setCell ⟨G,0,none⟩ u).cell? ⟨B,1,none⟩ = some (.bool lr) ∧ (W'.setCell ⟨G,0,none⟩ u).cell? ⟨B,2,none⟩ = some (.slice z.RA nr z.rc) ∧ (W'.setCell ⟨G,0,none⟩ u).cell? ⟨B,3,none⟩ = some (.bool rr) ∧ (W'.setCell ⟨G,0,none⟩ u).cell? ⟨B,4,none⟩ = some (.slice z.HA hn z.hc)):=fun W W' u hW hg=>by
  have h:=HKB.out W W' hW hg
  have hk : (W'.setCell ⟨G,0,none⟩ u).heap[B]? = W'.heap[B]?:=Deep.blk_setCell_other _ _ _ _ hBG
  exact ⟨(World.cell?_of_block (a:=⟨B,0,none⟩) hk).trans h.1,(World.cell?_of_block (a:=⟨B,1,none⟩) hk).trans h.2.1,(World.cell?_of_block (a:=⟨B,2,none⟩) hk).trans h.2.2.1,(World.cell?_of_block (a:=⟨B,3,none⟩) hk).trans h.2.2.2.1,(World.cell?_of_block (a:=⟨B,4,none⟩) hk).trans h.2.2.2.2⟩
 go_region_law ((refine step_append_xf (enc:=encE) (K:=5) (T:=73) Tryz.underlying25 info_ent rfl (by decide) (by decide) encE_len encE_one rfl (.tmp 17) (.tmp 19) rfl w0 (.slice A Z c) zs [z] (by simp [Act.eval,Act.put]) (HH1.out.own.to (by first | exact (Calm.refl _).alloc _ | exact (Below.drew (Calm.refl _)).alloc _ | exact Below.drew ((Calm.refl _).alloc _) | exact ((Calm.refl _).drewN _).alloc _ | exact ((Calm.refl _).alloc _).drewN _)) _ 1 1 rfl rfl (read_newE z rfl HN.out.1 HN.out.2.2.2.1 HN.out.2.1 HN.out.2.2.2.2 HN.out.2.2.1) (by rw [HL.out];omega) ?_;intro v9 w9 hown9 hg9 hfr9;have hs9:=HSF.out _ _ (by first | exact (Calm.refl _).alloc _ | exact (Below.drew (Calm.refl _)).alloc _ | exact Below.drew ((Calm.refl _).alloc _) | exact ((Calm.refl _).drewN _).alloc _ | exact ((Calm.refl _).alloc _).drewN _) hg9;have k9:=hs9.1;have f9:=hs9.2;obtain ⟨A9,n9,c9,rfl⟩:=hown9.shape))
 all_goals
  first
   |have HD : Hid ((ColE w0 (w9.setCell ⟨G,0,none⟩ (.slice A9 n9 c9)) G (.slice A9 n9 c9) (zs ++ [z]) ∧ FrE w (w9.setCell ⟨G,0,none⟩ (.slice A9 n9 c9)) G (.slice A Z c)) ∧ Fresh w (.slice A Z c) (.slice A9 n9 c9)):=⟨⟨HH1.out.add HZ1.out ((Below.drew (Calm.refl _)).alloc _) hown9 hg9,FrE.of (HC.out.trans ((Below.drew (Calm.refl _)).alloc _)) hg9⟩,Fresh.of (HC.out.trans ((Below.drew (Calm.refl _)).alloc _)) hfr9⟩
   |have HD : Hid ((ColE w0 (w9.setCell ⟨G,0,none⟩ (.slice A9 n9 c9)) G (.slice A9 n9 c9) (zs ++ [z]) ∧ FrE w (w9.setCell ⟨G,0,none⟩ (.slice A9 n9 c9)) G (.slice A Z c)) ∧ Fresh w (.slice A Z c) (.slice A9 n9 c9)):=⟨⟨HH1.out.add HZ1.out ((Calm.refl _).alloc _) hown9 hg9,FrE.of (HC.out.trans ((Calm.refl _).alloc _)) hg9⟩,Fresh.of (HC.out.trans ((Calm.refl _).alloc _)) hfr9⟩
   |have HD : Hid ((ColE w0 (w9.setCell ⟨G,0,none⟩ (.slice A9 n9 c9)) G (.slice A9 n9 c9) (zs ++ [z]) ∧ FrE w (w9.setCell ⟨G,0,none⟩ (.slice A9 n9 c9)) G (.slice A Z c)) ∧ Fresh w (.slice A Z c) (.slice A9 n9 c9)):=⟨⟨HH1.out.add HZ1.out (Below.drew ((Calm.refl _).alloc _)) hown9 hg9,FrE.of (HC.out.trans (Below.drew ((Calm.refl _).alloc _))) hg9⟩,Fresh.of (HC.out.trans (Below.drew ((Calm.refl _).alloc _))) hfr9⟩
   |have HD : Hid ((ColE w0 (w9.setCell ⟨G,0,none⟩ (.slice A9 n9 c9)) G (.slice A9 n9 c9) (zs ++ [z]) ∧ FrE w (w9.setCell ⟨G,0,none⟩ (.slice A9 n9 c9)) G (.slice A Z c)) ∧ Fresh w (.slice A Z c) (.slice A9 n9 c9)):=⟨⟨HH1.out.add HZ1.out (((Calm.refl _).drewN _).alloc _) hown9 hg9,FrE.of (HC.out.trans (((Calm.refl _).drewN _).alloc _)) hg9⟩,Fresh.of (HC.out.trans (((Calm.refl _).drewN _).alloc _)) hfr9⟩
   |have HD : Hid ((ColE w0 (w9.setCell ⟨G,0,none⟩ (.slice A9 n9 c9)) G (.slice A9 n9 c9) (zs ++ [z]) ∧ FrE w (w9.setCell ⟨G,0,none⟩ (.slice A9 n9 c9)) G (.slice A Z c)) ∧ Fresh w (.slice A Z c) (.slice A9 n9 c9)):=⟨⟨HH1.out.add HZ1.out (((Calm.refl _).alloc _).drewN _) hown9 hg9,FrE.of (HC.out.trans (((Calm.refl _).alloc _).drewN _)) hg9⟩,Fresh.of (HC.out.trans (((Calm.refl _).alloc _).drewN _)) hfr9⟩
  go_wp2_with fail
  exact bodyPost_end (v:=.tuple #[]) (results_none rfl _ _ _) rfl ⟨rfl,_,HD.out.1,HD.out.2⟩
end Go.Proofs.YtdcdabbepnahnaaGreatDoor
set_option linter.unusedVariables false
set_option linter.unusedSimpArgs false
namespace Go.Proofs.YtdcdabbepnahnaaGreatDoor
open Go Go.RowKit Sy
def KeepG (w w' : World) (G : Nat) : Prop:=∀ (b : Nat) (o : Obj),G < b → w.heap[b]? = some o → (∀ cs,o ≠ .cells cs 73 (0,0)) → w'.heap[b]? = some o
theorem KeepG.calm {w w' : World} {G : Nat} (h : Calm w w') : KeepG w w' G:=fun b o _ ho _=>(h.block b (heap_lt ho)).trans ho
theorem KeepG.after {w w2 w3 : World} {G : Nat} (h : Calm w w2) (hk : KeepG w2 w3 G) : KeepG w w3 G:=fun b o hb ho hc=>hk b o hb ((h.block b (heap_lt ho)).trans ho) hc
theorem KeepG.trans {w w2 w3 : World} {G : Nat} (h : KeepG w w2 G) (hk : KeepG w2 w3 G) : KeepG w w3 G:=fun b o hb ho hc=>hk b o hb (h b o hb ho hc) hc
theorem KeepG.to {w w2 w3 : World} {G : Nat} (h : KeepG w w2 G) (hk : Calm w2 w3) : KeepG w w3 G:=h.trans (KeepG.calm hk)
theorem KeepG.from {w w2 : World} {G B : Nat} (h : KeepG w w2 G) (hs : w.heap.size ≤ w2.heap.size) (hB : G < B) : KeepsFrom B w w2:=⟨hs,fun k o hk ho hc=>h k o (by omega) ho (fun cs e=>by rw [e] at hc;cases hc)⟩
theorem OwnX.cellsBlock {α : Type} {enc : α → List Value} {K : Nat} {T : TypeId} {w0 w : World} {v : Value} {l : List α} (h : OwnX enc K T w0 w v l) {b : Nat} {o : Obj} (hb : some b = v.ownBlock) (ho : w.heap[b]? = some o) : ∃ cs,o = .cells cs T (0,0):=by
 rcases h.own.2 with ⟨rfl,_⟩ | ⟨g,cap,cur,rfl,hg,hh,_⟩
 ·cases hb
 ·obtain rfl : b = g:=Option.some.inj hb
  rw [hh] at ho
  exact ⟨cur,(Option.some.inj ho).symm⟩
def Free (G : Nat) (w : World) (b : Nat) : Prop:=b ≠ G ∧ ∀ v,w.cell? ⟨G,0,none⟩ = some v → some b ≠ v.ownBlock
def RowIn (G : Nat) (w : World) : Prop:=∀ v,w.cell? ⟨G,0,none⟩ = some v → ∀ g,v.ownBlock = some g → g < w.heap.size
structure KeepR (w w' : World) (G : Nat) : Prop where
 size : w.heap.size ≤ w'.heap.size
 free : ∀ (b : Nat) cs T x,w.heap[b]? = some (.cells cs T x) → Free G w b → w'.heap[b]? = some (.cells cs T x) ∧ Free G w' b
 row : RowIn G w → RowIn G w'
theorem KeepR.trans {w w2 w3 : World} {G : Nat} (h : KeepR w w2 G) (k : KeepR w2 w3 G) : KeepR w w3 G:=
 ⟨Nat.le_trans h.size k.size,fun b cs T x hb hf=>by
  obtain ⟨h1,h2⟩:=h.free b cs T x hb hf
  exact k.free b cs T x h1 h2,fun hr=>k.row (h.row hr)⟩
theorem cell_back {w w' : World} {G : Nat} (hG : w'.heap[G]? = w.heap[G]?) {v : Value} (h : w'.cell? ⟨G,0,none⟩ = some v) : w.cell? ⟨G,0,none⟩ = some v:=(World.cell?_of_block (a:=⟨G,0,none⟩) hG).symm.trans h
theorem KeepR.calm {w w' : World} {G : Nat} (hG : G < w.heap.size) (h : Calm w w') : KeepR w w' G:=
 ⟨h.size,fun b cs T x hb hf=>⟨(h.block b (heap_lt hb)).trans hb,hf.1,fun v hv=>hf.2 v (cell_back (h.block G hG) hv)⟩,fun hr v hv g hg=>Nat.lt_of_lt_of_le (hr v (cell_back (h.block G hG) hv) g hg) h.size⟩
theorem KeepR.set1 (w : World) (G : Nat) (u : Value) : KeepR w (w.setCell ⟨G,1,none⟩ u) G:=by
 have hc : (w.setCell ⟨G,1,none⟩ u).cell? ⟨G,0,none⟩ = w.cell? ⟨G,0,none⟩:=World.cell?_setCell_other _ _ _ _ (by simp)
 refine ⟨by simp,fun b cs T x hb hf=>⟨?_,hf.1,fun v hv=>hf.2 v (hc.symm.trans hv)⟩,fun hr v hv g hg=>?_⟩
 ·rw [Deep.blk_setCell_other _ _ _ _ (fun e=>hf.1 e)]
  exact hb
 ·have:=hr v (hc.symm.trans hv) g hg
  simpa using this
theorem addE_fullR (w0 w : World) (G : Nat) (A : Option Addr) (c : Nat) (bv : Bool) (LA RA HA : Option Addr) (nl lc nr rc hn hcap : Nat) (lr rr : Bool) (h0 : Calm w0 w) (hlo : w0.heap.size ≤ G) (hk : ∃ cs,w.heap[G]? = some (.cells cs 100 (0,0))) (k0 : w.cell? ⟨G,0,none⟩ = some (.slice A 32 c)) (k1 : w.cell? ⟨G,1,none⟩ = some (.bool bv)) :
  Calls Tryz.prog 87 #[.pointer (some ⟨G,0,none⟩),entV LA RA HA nl lc nr rc hn hcap lr rr] w fun e w'=>e = .returned (.tuple #[]) ∧ ColFull 100 w0 w' G ∧ FrB w w' (G + 1) ∧ KeepR w w' G:=by
 obtain ⟨w1,hw1⟩ : ∃ w1,w1 = w.alloc (.cells #[.slice LA nl lc,.bool lr,.slice RA nr rc,.bool rr,.slice HA hn hcap] 73):=⟨_,rfl⟩
 have hc1 : Calm w w1:=by rw [hw1];exact (Calm.refl _).alloc _
 have HD:=Lib.hid (colFull_of h0 hlo hk k0 k1 (Calm.refl w))
 have HW:=Lib.hid hw1
 have hlt : G < w.heap.size:=by
  obtain ⟨cs,hh⟩:=hk
  exact heap_lt hh
 have f1 : w.frozen? ⟨G,1,none⟩ = false:=by
  obtain ⟨cs,hh⟩:=hk
  exact frozen_of_row w G 1 cs _ hh
 clear hw1 hc1 h0 hlo hk
 go_enter Tryz.func87,Tryz.ntmps87
 go_wp2_with fail
 exact bodyPost_ret (v:=.tuple #[]) (results_none rfl _ _ _) rfl ⟨rfl,HD.out.1.to ((Calm.refl _).alloc _),HD.out.2.calm ((Calm.refl _).alloc _) (by simp),(KeepR.set1 w G _).trans (KeepR.calm (by simpa using hlt) ((Calm.refl _).alloc _))⟩
theorem addE_n (w0 wq w : World) (G : Nat) (es : List Ent) (z : NewE) (nl nr hn : Nat) (lr rr : Bool) (h : ColA w0 wq G es) (hq : Calm wq w) (hz : EntN w (G + 1) z) (hnl : z.e.left.parts.length = nl) (hnr : z.e.right.parts.length = nr) (hhn : z.e.hs.length = hn) (hlr : z.e.left.rest = lr) (hrr : z.e.right.rest = rr) :
  Calls Tryz.prog 87 #[.pointer (some ⟨G,0,none⟩),entV z.LA z.RA z.HA nl z.lc nr z.rc hn z.hc lr rr] w fun e w'=>e = .returned (.tuple #[]) ∧ ColA w0 w' G (es ++ [z.e]) ∧ FrB w w' wq.heap.size ∧ KeepG w w' G ∧ KeepR w w' G:=by
 have hGq:=h.lt
 rcases h with ⟨v,zs,h1,rfl,h3⟩ | ⟨h1,h2⟩
 ·have hw:=h1.calm hq
  rw [List.length_map] at h3
  by_cases h32 : zs.length < 32
  ·refine (addE_f w0 w G v zs z nl nr hn lr rr hw hz h32 hnl hnr hhn hlr hrr).mono ?_
   rintro e w' ⟨he,v',⟨hc,hf⟩,hfr⟩
   refine ⟨he,.inl ⟨v',_,hc,by rw [List.map_append];rfl,by rw [List.length_append,List.length_map];simp only [List.length_cons,List.length_nil];omega⟩,fun b hb hbs=>hf b hbs (by omega) (fun e=>?_),fun b o hb ho hcl=>?_,?_⟩
   ·have:=h1.own.blk_lt e
    omega
   ·rw [hf b (heap_lt ho) (by omega) (fun e=>by obtain ⟨cs,hcs⟩:=hw.own.cellsBlock e ho;exact hcl cs hcs)]
    exact ho
   ·have hcw:=hw.c0
    have hsz : w.heap.size ≤ w'.heap.size:=by
     by_cases hg : w.heap.size = G + 1
     ·have:=hc.lt
      omega
     ·have hgl:=hw.lt
      have hlast:=hf (w.heap.size - 1) (by omega) (by omega)
      by_cases hown : some (w.heap.size - 1) = v.ownBlock
      ·rcases hfr with hfr | ⟨g,hfr,hg2⟩
       ·have:=hc.own.blk_lt (hown.trans hfr.symm)
        omega
       ·have:=hc.own.blk_lt hfr.symm
        omega
      ·have:=hlast hown
       rw [Array.getElem?_eq_getElem (show w.heap.size - 1 < w.heap.size by omega)] at this
       have:=heap_lt this
       omega
    refine ⟨hsz,fun b cs T x hb hfree=>⟨(hf b (heap_lt hb) hfree.1 (hfree.2 v hcw)).trans hb,hfree.1,fun u hu=>?_⟩,fun _ u hu g hg=>?_⟩
    ·obtain rfl : v' = u:=Option.some.inj (hc.c0.symm.trans hu)
     rcases hfr with hfr | ⟨g,hfr,hg⟩
     ·rw [hfr]
      exact hfree.2 v hcw
     ·rw [hfr]
      intro e
      have:=heap_lt hb
      obtain rfl:=Option.some.inj e
      omega
    ·obtain rfl : v' = u:=Option.some.inj (hc.c0.symm.trans hu)
     exact hc.own.blk_lt hg.symm
  ·have h32' : zs.length = 32:=by omega
   obtain ⟨A,c,rfl,_,_,_⟩:=hw.shape
   rw [h32'] at hw
   refine (addE_fullR w0 w G A c false z.LA z.RA z.HA nl z.lc nr z.rc hn z.hc lr rr hw.own.calm hw.lo hw.kind hw.c0 hw.c1).mono ?_
   rintro e w' ⟨he,hc,hf,hkr⟩
   exact ⟨he,.inr ⟨by rw [List.length_append,List.length_map,h32'];simp,hc⟩,fun b hb hbs=>hf b (by omega) hbs,fun b o hb ho _=>(hf b hb (heap_lt ho)).trans ho,hkr⟩
 ·have hw:=h2.to hq
  obtain ⟨A,c,k0⟩:=hw.c0
  refine (addE_fullR w0 w G A c true z.LA z.RA z.HA nl z.lc nr z.rc hn z.hc lr rr hw.calm hw.lo hw.kind k0 hw.c1).mono ?_
  rintro e w' ⟨he,hc,hf,hkr⟩
  exact ⟨he,.inr ⟨by rw [List.length_append];omega,hc⟩,fun b hb hbs=>hf b (by omega) hbs,fun b o hb ho _=>(hf b hb (heap_lt ho)).trans ho,hkr⟩
set_option maxHeartbeats 8000000 in
theorem put_n (w0 wq w : World) (G : Nat) (es : List Ent) (n : Rule) (ps : List Pat) (a : Pl) (ex : Bool) (nl nr N pc : Nat) (lr rr : Bool) (PA : Option Addr) (h : ColA w0 wq G es) (hq : Calm wq w) (hL : PatA w a.AL a.cl n.left) (hR : PatA w a.AR a.cr n.right) (hnl : n.left.parts.length = nl) (hnr : n.right.parts.length = nr) (hlr : n.left.rest = lr) (hrr : n.right.rest = rr)
  (KRd : ∀ W,Calm w W → Calls Tryz.prog 86 #[.agg #[.slice a.AL nl a.cl,.bool lr],.slice PA N pc] W fun e w'=>RdEnd n.left ps W.heap.size e w' ∧ Calm W w') :
  Calls Tryz.prog 49 #[.pointer (some ⟨G,0,none⟩),.agg #[.bool ex,.slice a.AL nl a.cl,.bool lr,.slice a.AR nr a.cr,.bool rr],.slice PA N pc] w fun e w'=>(PutEnd w0 w' G es n ps e ∧ FrB w w' wq.heap.size) ∧ KeepG w w' G ∧ KeepR w w' G:=by
 obtain ⟨w1,hw1⟩ : ∃ w1,w1 = w.alloc (.cells #[.bool ex,.slice a.AL nl a.cl,.bool lr,.slice a.AR nr a.cr,.bool rr] 69):=⟨_,rfl⟩
 obtain ⟨B,hB⟩ : ∃ B,w.heap.size = B:=⟨_,rfl⟩
 have hc1 : Calm w w1:=by rw [hw1];exact (Calm.refl w).alloc _
 have hb1 : FiveB w1 B (.bool ex) (.slice a.AL nl a.cl) (.bool lr) (.slice a.AR nr a.cr) (.bool rr):=by
  rw [hw1,← hB]
  exact FiveB.new w _ _ _ _ _ _
 have hBw : w1.heap.size = B + 1:=by rw [hw1,← hB];simp
 obtain ⟨gm,hgm⟩ : ∃ gm,(redL n.left ps).length = gm:=⟨_,rfl⟩
 have KR0:=KRd w1 hc1
 unfold RdEnd at KR0
 rw [hgm,hnl,hlr,hBw] at KR0
 have HH:=Lib.hid h
 have HQ0:=Lib.hid hq
 have HGl : Hid (G < wq.heap.size):=h.lt
 have hGq:=h.lt
 have HW:=Lib.hid hw1
 have HC:=Lib.hid hc1
 have HB:=Lib.hid hb1
 have HBs:=Lib.hid hB
 by_cases h64 : 64 < gm
 ·simp only [if_pos h64] at KR0
  have HP : Hid (putH n ps = none):=putH_far (by rw [hgm];exact h64)
  have HK:=Lib.hid KR0
  clear h hq hL hR hnl hnr hlr hrr KRd hw1 hB hc1 hb1 hBw hgm KR0 h64
  go_enter Tryz.func49,Tryz.ntmps49
  go_wp2_with fail
  rw [← HW.out]
  refine HK.out.mono ?_
  rintro e w3 ⟨rfl,hc3⟩
  have HC3 : Hid (Calm w w3):=HC.out.trans hc3
  clear hc3
  go_wp2_with fail
  go_ret
  refine ⟨⟨?_,fun b hb hbs=>(HC3.out.alloc _).block b hbs⟩,KeepG.calm (HC3.out.alloc _),KeepR.calm (Nat.lt_of_lt_of_le HGl.out HQ0.out.size) (HC3.out.alloc _)⟩
  unfold PutEnd
  rw [HP.out]
  exact ⟨rfl,HH.out.to (HQ0.out.trans (HC3.out.alloc _))⟩
 ·simp only [if_neg h64] at KR0
  obtain ⟨vz,hvz⟩ : ∃ vz,(leastLen n.left (redL n.left ps) == 0) = vz:=⟨_,rfl⟩
  simp only [hvz] at KR0
  cases vz with
  |true=>
   have HP : Hid (putH n ps = some none):=putH_void (by rw [hgm];exact h64) (by simpa using hvz)
   have HK:=Lib.hid KR0
   clear h hq hL hR hnl hnr hlr hrr KRd hw1 hB hc1 hb1 hBw hgm KR0 h64 hvz
   go_enter Tryz.func49,Tryz.ntmps49
   go_wp2_with fail
   rw [← HW.out]
   refine HK.out.mono ?_
   rintro e w3 ⟨⟨A2,c2,HA2,hc2,rfl,hS,hQ⟩,hc3⟩
   have HC3 : Hid (Calm w w3):=HC.out.trans hc3
   clear hc3 hS hQ
   go_wp2_with fail
   go_ret
   refine ⟨⟨?_,fun b hb hbs=>(HC3.out.alloc _).block b hbs⟩,KeepG.calm (HC3.out.alloc _),KeepR.calm (Nat.lt_of_lt_of_le HGl.out HQ0.out.size) (HC3.out.alloc _)⟩
   unfold PutEnd
   rw [HP.out]
   exact ⟨rfl,HH.out.to (HQ0.out.trans (HC3.out.alloc _))⟩
  |false=>
   have HP : Hid (putH n ps = some (some ⟨n.left,n.right,redL n.left ps⟩)):=putH_one (by rw [hgm];exact h64) (by simpa using hvz)
   have HK:=Lib.hid KR0
   have HN:=Lib.hid (And.intro hnl (And.intro hnr (And.intro hlr (And.intro hrr hgm))))
   have HPs:=Lib.hid (And.intro hL hR)
   have KCp : Hid (∀ W,Calm w1 W → Calls Tryz.prog 82 #[.agg #[.slice a.AR nr a.cr,.bool rr]] W fun e w'=>(∃ A c,e = .returned (.agg #[.slice A nr c,.bool rr]) ∧ NewS w' W.heap.size A c n.right.parts) ∧ Calm W w'):=fun W hW=>by
    have:=copy_c n.right a.AR a.cr W (hR.r.calm (hc1.trans hW)).toU
    unfold CopyEnd at this
    rw [hnr,hrr] at this
    exact this
   have HBw:=Lib.hid hBw
   have HGB : Hid (G < B):=by
    show G < B
    rw [← hB]
    exact Nat.lt_of_lt_of_le h.lt hq.size
   have HH64:=Lib.hid h64
   clear h hq hL hR hnl hnr hlr hrr KRd hw1 hB hc1 hb1 hBw hgm KR0 h64 hvz
   go_enter Tryz.func49,Tryz.ntmps49
   go_wp2_with fail
   rw [← HW.out,HBs.out]
   refine HK.out.mono ?_
   rintro e w3 ⟨⟨A2,c2,HA2,hc2,rfl,hS,hQ⟩,hc3⟩
   obtain ⟨w4,hw4⟩ : ∃ w4,w4 = w3.alloc (.cells #[.slice A2 nl c2,.bool lr,.slice HA2 gm hc2] 67):=⟨_,rfl⟩
   obtain ⟨D,hD⟩ : ∃ D,w3.heap.size = D:=⟨_,rfl⟩
   have hc4 : Calm w3 w4:=by
    show Below _ _ _
    rw [hw4]
    exact (Calm.refl _).alloc _
   have hg4 : RgB w4 D (.slice A2 nl c2) (.bool lr) (.slice HA2 gm hc2):=by rw [hw4,← hD];exact RgB.new w3 _ _ _
   have HS4 : Hid (NewS w4 (B + 1) A2 c2 n.left.parts):=hS.calm hc4
   have HQ4 : Hid (PatsN w4 (B + 1) HA2 hc2 (redL n.left ps)):=hQ.calm hc4
   have HC14 : Hid (Calm w1 w4):=Calm.trans hc3 hc4
   have HBD : Hid (B < D):=by
    show B < D
    have h1:=hc3.size
    have h2:=HBw.out
    omega
   have HB4 : Hid (FiveB w4 B (.bool ex) (.slice a.AL nl a.cl) (.bool lr) (.slice a.AR nr a.cr) (.bool rr)):=HB.out.calm HC14.out
   have HG4:=Lib.hid hg4
   have HC04 : Hid (Calm w w4):=HC.out.trans HC14.out
   have HW4:=Lib.hid hw4
   have HDs:=Lib.hid hD
   have HBsz : Hid (B + 1 ≤ w4.heap.size):=by
    show B + 1 ≤ w4.heap.size
    have h1:=HC14.out.size
    have h2:=HBw.out
    omega
   clear hS hQ hc3 hc4 hg4 hw4 hD
   go_wp2_with fail
   rw [← HW4.out,HDs.out]
   have HK5 : Hid (∀ W : World,Calm w4 W → W.cell? ⟨D,0,none⟩ = some (.slice A2 nl c2) ∧ W.cell? ⟨D,1,none⟩ = some (.bool lr) ∧ W.cell? ⟨D,2,none⟩ = some (.slice HA2 gm hc2) ∧ W.cell? ⟨B,3,none⟩ = some (.slice a.AR nr a.cr) ∧ W.cell? ⟨B,4,none⟩ = some (.bool rr)):=fun W hW=>
    ⟨(HG4.out.calm hW).c0,(HG4.out.calm hW).c1,(HG4.out.calm hW).c2,(HB4.out.calm hW).c3,(HB4.out.calm hW).c4⟩
   have HFr : Hid (∀ W W' : World,Calm w4 W → FrB W W' wq.heap.size → W'.cell? ⟨D,0,none⟩ = some (.slice A2 nl c2) ∧ W'.cell? ⟨D,1,none⟩ = some (.bool lr) ∧ W'.cell? ⟨D,2,none⟩ = some (.slice HA2 gm hc2) ∧ W'.cell? ⟨B,3,none⟩ = some (.slice a.AR nr a.cr) ∧ W'.cell? ⟨B,4,none⟩ = some (.bool rr)):=fun W W' hW hf=>by
    have hd:=(HG4.out.calm hW)
    have hb:=(HB4.out.calm hW)
    have hbd:=HBD.out
    have hbs:=HBs.out
    have hqs:=HQ0.out.size
    have e1:=hf D (by omega) hd.lt
    have e2:=hf B (by omega) hb.lt
    exact ⟨(World.cell?_of_block (a:=⟨D,0,none⟩) e1).trans hd.c0,(World.cell?_of_block (a:=⟨D,1,none⟩) e1).trans hd.c1,(World.cell?_of_block (a:=⟨D,2,none⟩) e1).trans hd.c2,(World.cell?_of_block (a:=⟨B,3,none⟩) e2).trans hb.c3,(World.cell?_of_block (a:=⟨B,4,none⟩) e2).trans hb.c4⟩
   have KA : Hid (∀ W A9 c9,Calm w4 W → NewS W (B + 1) A9 c9 n.right.parts → Calls Tryz.prog 87 #[.pointer (some ⟨G,0,none⟩),.agg #[.slice A2 nl c2,.bool lr,.slice A9 nr c9,.bool rr,.slice HA2 gm hc2]] W fun e w'=>e = .returned (.tuple #[]) ∧ ColA w0 w' G (es ++ [⟨n.left,n.right,redL n.left ps⟩]) ∧ FrB W w' wq.heap.size ∧ KeepG W w' G ∧ KeepR W w' G):=fun W A9 c9 hW h9=>by
    have hgb:=HGB.out
    refine addE_n w0 wq W G es ⟨A2,c2,A9,c9,HA2,hc2,⟨n.left,n.right,redL n.left ps⟩⟩ nl nr gm lr rr HH.out (HQ0.out.trans (HC04.out.trans hW)) ⟨⟨(HS4.out.calm hW).mono (by omega),HPs.out.1.r.len,HPs.out.1.r.each⟩,⟨h9.mono (by omega),HPs.out.2.r.len,HPs.out.2.r.each⟩,(HQ4.out.calm hW).mono (by omega),?_⟩ HN.out.1 HN.out.2.1 HN.out.2.2.2.2 HN.out.2.2.1 HN.out.2.2.2.1
    have h1:=HH64.out
    have h2:=HN.out.2.2.2.2
    show (redL n.left ps).length ≤ 16384
    omega
   go_region_held3 (fun W=>W.cell? ⟨D,0,none⟩ = some (.slice A2 nl c2) ∧ W.cell? ⟨D,1,none⟩ = some (.bool lr) ∧ W.cell? ⟨D,2,none⟩ = some (.slice HA2 gm hc2) ∧ W.cell? ⟨B,3,none⟩ = some (.slice a.AR nr a.cr) ∧ W.cell? ⟨B,4,none⟩ = some (.bool rr))
    (first
     |exact HK5.out _ (Calm.refl _)
     |exact HK5.out _ (Below.drew (Calm.refl _))
     |exact HK5.out _ hc48
     |exact HK5.out _ (Below.drew hc48)
     |exact HFr.out _ _ hc48 hf9
     |exact HFr.out _ _ (Below.drew hc48) hf9
     |go_keep)
    (first
     |(go_at_call 82;first
       |(refine (KCp.out _ (HC14.out.trans (Calm.refl _))).mono ?_;rintro e w8 ⟨⟨A9,c9,rfl,hN9⟩,hc8⟩;have hc48 : Calm w4 w8:=hc8;have hN9' : NewS w8 (B + 1) A9 c9 n.right.parts:=hN9.mono HBsz.out)
       |(refine (KCp.out _ (HC14.out.trans (Below.drew (Calm.refl _)))).mono ?_;rintro e w8 ⟨⟨A9,c9,rfl,hN9⟩,hc8⟩;have hc48 : Calm w4 w8:=(Below.drew (Calm.refl _)).trans hc8;have hN9' : NewS w8 (B + 1) A9 c9 n.right.parts:=hN9.mono HBsz.out))
     |(go_at_call 87;refine (KA.out _ _ _ hc48 hN9').mono ?_;rintro e w9 ⟨rfl,hCol9,hf9,hk9,hr9⟩))
   all_goals
    have HCl:=Lib.hid hCol9
    have HFin : Hid (FrB w w9 wq.heap.size):=fun b hb hbs=>by
     have h1:=HC04.out
     first
      |exact (hf9 b hb (Nat.lt_of_lt_of_le hbs (h1.trans hc48).size)).trans ((h1.trans hc48).block b hbs)
      |exact (hf9 b hb (Nat.lt_of_lt_of_le hbs (h1.trans (Below.drew hc48)).size)).trans ((h1.trans (Below.drew hc48)).block b hbs)
    have HKp : Hid (KeepG w w9 G ∧ KeepR w w9 G):=by
     have h1:=HC04.out
     have hg:=Nat.lt_of_lt_of_le HGl.out HQ0.out.size
     first
      |exact ⟨KeepG.after (h1.trans hc48) hk9,(KeepR.calm hg (h1.trans hc48)).trans hr9⟩
      |exact ⟨KeepG.after (h1.trans (Below.drew hc48)) hk9,(KeepR.calm hg (h1.trans (Below.drew hc48))).trans hr9⟩
    go_wp2_with fail
    go_ret
    refine ⟨⟨?_,HFin.out⟩,HKp.out⟩
    unfold PutEnd
    rw [HP.out]
    exact ⟨rfl,HCl.out⟩
end Go.Proofs.YtdcdabbepnahnaaGreatDoor
