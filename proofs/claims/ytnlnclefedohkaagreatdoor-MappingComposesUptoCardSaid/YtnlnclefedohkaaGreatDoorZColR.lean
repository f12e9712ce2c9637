/- A collection's add, and where its row then lies: as before, or in a new block. -/
import Derived.Test.YtnlnclefedohkaaGreatDoorZColE
set_option linter.unusedVariables false
set_option linter.unusedSimpArgs false
namespace Go.Proofs.YtnlnclefedohkaaGreatDoor
open Go Go.RowKit Sy
def Fresh (w : World) (v v' : Value) : Prop:=v'.ownBlock = v.ownBlock ∨ ∃ g,v'.ownBlock = some g ∧ w.heap.size ≤ g
theorem Fresh.of {w w2 : World} {v v' : Value} (hc : Calm w w2) (h : Fresh w2 v v') : Fresh w v v':=h.imp id fun ⟨g,hg,hl⟩=>⟨g,hg,Nat.le_trans hc.size hl⟩
section
variable {α : Type} {enc : α → List Value} {K : Nat} {T : TypeId}
theorem append_fresh {P : Program} {w w0 w' : World} {S ty : TypeId} {i0 : TypeInfo} {z : Value} {bytes : Nat} (ht : P.underlying S = some (.slice T)) (hi : P.info? T = some i0) (hz : i0.zero = some z) (hsize : i0.size = K) (hby : i0.bytes = bytes) (hzs : z.cells.size = K) (hK : 0 < K)
  (hlen : ∀ x,(enc x).length = K) (h1 : ∀ x,∀ u ∈ enc x,u.oneCell' = true) {v v' : Value} {l m : List α} {A : Option Addr} {n c : Nat} (hown : OwnX enc K T w0 w v l) (hm : m.length = n)
  (hrd : ReadX enc K w A m) (hl : l.length + n ≤ 2000000) (hb : bytes ≤ 1000) (hr : (Builtin.append_ #[S,S] ty #[v,.slice A n c]).run P w = .ok v' w') : Fresh w v v':=by
 cases A with
 |none=>
  have h0 : m = []:=Classical.byContradiction fun hne=>by
   obtain ⟨b,o,hA,_⟩:=hrd hne
   cases hA
  subst h0
  obtain rfl : 0 = n:=by simpa using hm
  rcases hown.own.2 with ⟨rfl,h1⟩ | ⟨g,cap,cur,rfl,_,_,hnc,_⟩
  ·simp [Builtin.append_,run_underlying ht,sizeOf,typeInfo,hi,Builtin.lenOf,Builtin.firstCells] at hr
   exact .inl (by rw [← hr.1])
  ·simp [Builtin.append_,run_underlying ht,sizeOf,typeInfo,hi,Builtin.lenOf,Builtin.firstCells,hnc,storeCells] at hr
   exact .inl (by rw [← hr.1])
 |some ad=>
  have hnews : ∀ (j : Nat) (u : Value),(encs enc m)[j]? = some u → w.cell? (ad.add j) = some u:=fun j u hj=>by
   obtain ⟨k,x,i,h2,rfl,h3⟩:=encs_cells hlen m j u hj
   obtain ⟨b,o,hA,_,hk⟩:=hrd (fun e=>by rw [e] at h2;simp at h2)
   obtain rfl:=Option.some.inj hA
   simpa [Addr.add_lit,Nat.add_assoc] using hk k x h2 i u h3
  have h2 : ∀ u ∈ encs enc m,u.oneCell' = true:=fun u hu=>by
   obtain ⟨x,_,hx⟩:=List.mem_flatMap.1 hu
   exact h1 x u hx
  have hnl : (encs enc m).length = n * i0.size:=by rw [hsize,encs_len hlen,hm]
  subst hsize
  subst hby
  rcases hown.own.2 with ⟨rfl,h0⟩ | ⟨g,cap,cur,rfl,hbg,hg,hnc,hcm,hcs,htake⟩
  ·rw [h0] at hl
   by_cases hn : n = 0
   ·subst hn
    have he : encs enc m = []:=List.eq_nil_of_length_eq_zero (by simpa using hnl)
    simp [Builtin.append_,run_underlying ht,sizeOf,typeInfo,hi,Builtin.lenOf,Builtin.firstCells,loadCells,loadCellsFrom] at hr
    exact .inl (by rw [← hr.1])
   ·have h48 : n * i0.bytes ≤ 281474976710656:=Nat.le_trans (Nat.mul_le_mul (show n ≤ 2000000 by omega) hb) (by decide)
    rw [run_append_nil (P:=P) w S ty T i0 z ht hi hz ad n c (encs enc m) hnl hnews (by omega) (by omega) h48] at hr
    simp only [Result.ok.injEq] at hr
    obtain ⟨rfl,_⟩:=hr
    exact .inr ⟨_,rfl,Nat.le_refl _⟩
  ·by_cases hroom : l.length + n ≤ cap
   ·have hfit : l.length * i0.size + (encs enc m).length ≤ cur.size:=by rw [hnl,hcs,← Nat.add_mul];exact Nat.mul_le_mul_right _ hroom
    rw [run_append_room (P:=P) w S ty T i0 ht hi g l.length cap cur hg ad n c (encs enc m) hnl hnews h2 hroom hfit] at hr
    simp only [Result.ok.injEq] at hr
    obtain ⟨rfl,_⟩:=hr
    exact .inl rfl
   ·have holds : ∀ j u,(encs enc l)[j]? = some u → w.cell? ((⟨g,0,none⟩ : Addr).add j) = some u:=hown.own.cells (g:=g) rfl
    rw [run_append_grow (P:=P) w S ty T i0 z ht hi hz ⟨g,0,none⟩ l.length cap (encs enc l) hown.own.1 holds ad n c (encs enc m) hnl hnews (by omega) (by omega) (growslice_fits (by omega) (Nat.le_trans (Nat.mul_le_mul (show l.length + n ≤ 2000000 by omega) hb) (by decide)))] at hr
    simp only [Result.ok.injEq] at hr
    obtain ⟨rfl,_⟩:=hr
    exact .inr ⟨_,rfl,Nat.le_refl _⟩
theorem step_append_xf {S : TypeId} {z : Value} {bytes : Nat} (ht : Tryz.prog.underlying S = some (.slice T)) (hi : (Tryz.prog.info? T).map (fun i=>(i.zero,i.size,i.bytes)) = some (some z,K,bytes)) (hzs : z.cells.size = K) (hK0 : 0 < K) (hb : bytes ≤ 1000)
  (hlen : ∀ x,(enc x).length = K) (h1 : ∀ x,∀ u ∈ enc x,u.oneCell' = true)
  {ops : Array Oper} {o : Oper} {a : Act} {w : World} {R : Act → World → Prop} {Q : Exit → Act → World → Prop} {E : Prop}
  (hg : o.guard = none) (s x : Operand) (hop : o.op = Op.call { callee:=Callee.builtin Builtin.append,args:=#[s,x],argTypes:=#[S,S] })
  (w0 : World) (v : Value) (l m : List α) (hs : a.eval s = v) (hown : OwnX enc K T w0 w v l) (A : Option Addr) (n c : Nat) (hx : a.eval x = .slice A n c) (hm : m.length = n)
  (hrd : ReadX enc K w A m) (hl : l.length + n ≤ 2000000)
  (hK : ∀ v' w',OwnX enc K T w0 w' v' (l ++ m) → w.grownBy w' v.ownBlock → Fresh w v v' → R (a.put o.dst v') w') :
  if Region.wanted o (yielded ops a.tmps) = true then Oper.wp Tryz.prog o a w R Q else E:=by
 have hw : Region.wanted o (yielded ops a.tmps) = true:=by simp [Region.wanted,hg]
 rw [if_pos hw]
 obtain ⟨i0,hi0,hz0,hz1,hz2⟩:=info_parts hi
 obtain ⟨v',w',hr,h2,h3⟩:=run_append_xs (P:=Tryz.prog) (ty:=o.type) (c:=c) ht hi0 hz0 hz1 hz2 hzs hK0 hlen h1 hown hm hrd hl hb
 have hf:=append_fresh (P:=Tryz.prog) (ty:=o.type) (c:=c) ht hi0 hz0 hz1 hz2 hzs hK0 hlen h1 hown hm hrd hl hb hr
 unfold Oper.wp
 simp [execOp,hop,resolve,invoke,builtin,hs,hx,Result.andThen]
 rw [hr]
 exact hK v' w' h2 h3 hf
end
set_option maxHeartbeats 4000000 in
theorem addE_f (w0 w : World) (G : Nat) (v : Value) (zs : List NewE) (z : NewE) (nl nr hn : Nat) (lr rr : Bool) (h : ColE w0 w G v zs) (hz : EntN w (G + 1) z) (hl : zs.length < 32) (hnl : z.e.left.parts.length = nl) (hnr : z.e.right.parts.length = nr) (hhn : z.e.hs.length = hn) (hlr : z.e.left.rest = lr) (hrr : z.e.right.rest = rr) :
  Calls Tryz.prog 55 #[.pointer (some ⟨G,0,none⟩),entV z.LA z.RA z.HA nl z.lc nr z.rc hn z.hc lr rr] w fun e w'=>e = .returned (.tuple #[]) ∧ ∃ v',(ColE w0 w' G v' (zs ++ [z]) ∧ FrE w w' G v) ∧ Fresh w v v':=by
 obtain ⟨A,c,hv,_,_,_⟩:=h.shape
 obtain ⟨Z,hZ⟩ : ∃ Z,zs.length = Z:=⟨_,rfl⟩
 rw [hZ] at hl hv
 subst hv
 have HH:=Lib.hid h
 have HZ:=Lib.hid hz
 have HN:=Lib.hid (And.intro hnl (And.intro hnr (And.intro hhn (And.intro hlr hrr))))
 have HL:=Lib.hid hZ
 obtain ⟨w1,hw1⟩ : ∃ w1,w1 = w.alloc (.cells #[.slice z.LA nl z.lc,.bool lr,.slice z.RA nr z.rc,.bool rr,.slice z.HA hn z.hc] 43):=⟨_,rfl⟩
 obtain ⟨B,hB⟩ : ∃ B,w.heap.size = B:=⟨_,rfl⟩
 have hc1 : Calm w w1:=by rw [hw1];exact (Calm.refl _).alloc _
 have hb1 : FiveB w1 B (.slice z.LA nl z.lc) (.bool lr) (.slice z.RA nr z.rc) (.bool rr) (.slice z.HA hn z.hc):=by
  rw [hw1,← hB]
  exact FiveB.new w _ _ _ _ _ _
 have hzw1 : EntN w1 (G + 1) z:=hz.calm hc1
 have HZ1:=Lib.hid hzw1
 have hh1:=h.calm hc1
 have kw0:=h.c0
 have hGw:=h.lt
 have k0:=hh1.c0
 have k1:=hh1.c1
 have f0:=hh1.f 0
 have b0:=hb1.c0
 have b1:=hb1.c1
 have b2:=hb1.c2
 have b3:=hb1.c3
 have b4:=hb1.c4
 have HW:=Lib.hid hw1
 have HBs:=Lib.hid hB
 have HC:=Lib.hid hc1
 have HB1:=Lib.hid hb1
 have HH1:=Lib.hid hh1
 clear h hz hzw1 hnl hnr hhn hlr hrr hZ hw1 hc1 hb1 hh1 hB
 have hne : ((Z : Int) == 32) = false:=by
  rw [beq_eq_false_iff_ne]
  omega
 have HK : Hid (∀ W,Calm w1 W → W.cell? ⟨G,0,none⟩ = some (.slice A Z c) ∧ W.cell? ⟨B,0,none⟩ = some (.slice z.LA nl z.lc) ∧ W.cell? ⟨B,1,none⟩ = some (.bool lr) ∧ W.cell? ⟨B,2,none⟩ = some (.slice z.RA nr z.rc) ∧ W.cell? ⟨B,3,none⟩ = some (.bool rr) ∧ W.cell? ⟨B,4,none⟩ = some (.slice z.HA hn z.hc)):=fun W hW=>
  have hb:=HB1.out.calm hW
  ⟨(HH1.out.calm hW).c0,hb.c0,hb.c1,hb.c2,hb.c3,hb.c4⟩
 go_enter Tryz.func55,Tryz.ntmps55
 go_wp2_with fail
 rw [← HW.out,HBs.out]
 have HSF : Hid (∀ W W' : World,Calm w1 W → W.grownBy W' (Value.slice A Z c).ownBlock → W'.cell? ⟨G,0,none⟩ = some (.slice A Z c) ∧ W'.frozen? ⟨G,0,none⟩ = false):=fun W W' hW hg=>HH1.out.after hW hg
 have HKB : Hid (∀ W W' : World,Calm w1 W → W.grownBy W' (Value.slice A Z c).ownBlock → W'.cell? ⟨B,0,none⟩ = some (.slice z.LA nl z.lc) ∧ W'.cell? ⟨B,1,none⟩ = some (.bool lr) ∧ W'.cell? ⟨B,2,none⟩ = some (.slice z.RA nr z.rc) ∧ W'.cell? ⟨B,3,none⟩ = some (.bool rr) ∧ W'.cell? ⟨B,4,none⟩ = some (.slice z.HA hn z.hc)):=fun W W' hW hg=>by
  have hb:=HB1.out.calm hW
  have hk:=hg.block B hb.lt (fun e=>by
   have h1:=HH.out.own.blk_lt e
   have h2:=HBs.out
   omega)
  exact ⟨(World.cell?_of_block (a:=⟨B,0,none⟩) hk).trans hb.c0,(World.cell?_of_block (a:=⟨B,1,none⟩) hk).trans hb.c1,(World.cell?_of_block (a:=⟨B,2,none⟩) hk).trans hb.c2,(World.cell?_of_block (a:=⟨B,3,none⟩) hk).trans hb.c3,(World.cell?_of_block (a:=⟨B,4,none⟩) hk).trans hb.c4⟩
 have hG1:=HH1.out.lt
 have kd0 : w1.drew.cell? ⟨G,0,none⟩ = some (.slice A Z c):=(HK.out _ (Below.drew (Calm.refl _))).1
 have hBG : ¬ B = G:=by
  have h1:=HH.out.lt
  have h2:=HBs.out
  omega
 have hGB : ¬ G = B:=fun e=>hBG e.symm
 have HSet : Hid (∀ W W' : World,∀ u,Calm w1 W → W.grownBy W' (Value.slice A Z c).ownBlock → (W'.setCell ⟨G,0,none⟩ u).cell? ⟨B,0,none⟩ = some (.slice z.LA nl z.lc) ∧ (W'.setCell ⟨G,0,none⟩ u).cell? ⟨B,1,none⟩ = some (.bool lr) ∧ (W'.setCell ⟨G,0,none⟩ u).cell? ⟨B,2,none⟩ = some (.slice z.RA nr z.rc) ∧ (W'.setCell ⟨G,0,none⟩ u).cell? ⟨B,3,none⟩ = some (.bool rr) ∧ (W'.setCell ⟨G,0,none⟩ u).cell? ⟨B,4,none⟩ = some (.slice z.HA hn z.hc)):=fun W W' u hW hg=>by
  have h:=HKB.out W W' hW hg
  have hk : (W'.setCell ⟨G,0,none⟩ u).heap[B]? = W'.heap[B]?:=Deep.blk_setCell_other _ _ _ _ hBG
  exact ⟨(World.cell?_of_block (a:=⟨B,0,none⟩) hk).trans h.1,(World.cell?_of_block (a:=⟨B,1,none⟩) hk).trans h.2.1,(World.cell?_of_block (a:=⟨B,2,none⟩) hk).trans h.2.2.1,(World.cell?_of_block (a:=⟨B,3,none⟩) hk).trans h.2.2.2.1,(World.cell?_of_block (a:=⟨B,4,none⟩) hk).trans h.2.2.2.2⟩
 go_region_law ((refine step_append_xf (enc:=encE) (K:=5) (T:=43) Tryz.underlying22 info_ent rfl (by decide) (by decide) encE_len encE_one rfl (.tmp 17) (.tmp 19) rfl w0 (.slice A Z c) zs [z] (by simp [Act.eval,Act.put]) (HH1.out.own.to (by first | exact (Calm.refl _).alloc _ | exact (Below.drew (Calm.refl _)).alloc _ | exact Below.drew ((Calm.refl _).alloc _) | exact ((Calm.refl _).drewN _).alloc _ | exact ((Calm.refl _).alloc _).drewN _)) _ 1 1 rfl rfl (read_newE z rfl HN.out.1 HN.out.2.2.2.1 HN.out.2.1 HN.out.2.2.2.2 HN.out.2.2.1) (by rw [HL.out];omega) ?_;intro v9 w9 hown9 hg9 hfr9;have hs9:=HSF.out _ _ (by first | exact (Calm.refl _).alloc _ | exact (Below.drew (Calm.refl _)).alloc _ | exact Below.drew ((Calm.refl _).alloc _) | exact ((Calm.refl _).drewN _).alloc _ | exact ((Calm.refl _).alloc _).drewN _) hg9;have k9:=hs9.1;have f9:=hs9.2;obtain ⟨A9,n9,c9,rfl⟩:=hown9.shape))
 all_goals
  first
   |have HD : Hid ((ColE w0 (w9.setCell ⟨G,0,none⟩ (.slice A9 n9 c9)) G (.slice A9 n9 c9) (zs ++ [z]) ∧ FrE w (w9.setCell ⟨G,0,none⟩ (.slice A9 n9 c9)) G (.slice A Z c)) ∧ Fresh w (.slice A Z c) (.slice A9 n9 c9)):=⟨⟨HH1.out.add HZ1.out ((Below.drew (Calm.refl _)).alloc _) hown9 hg9,FrE.of (HC.out.trans ((Below.drew (Calm.refl _)).alloc _)) hg9⟩,Fresh.of (HC.out.trans ((Below.drew (Calm.refl _)).alloc _)) hfr9⟩
   |have HD : Hid ((ColE w0 (w9.setCell ⟨G,0,none⟩ (.slice A9 n9 c9)) G (.slice A9 n9 c9) (zs ++ [z]) ∧ FrE w (w9.setCell ⟨G,0,none⟩ (.slice A9 n9 c9)) G (.slice A Z c)) ∧ Fresh w (.slice A Z c) (.slice A9 n9 c9)):=⟨⟨HH1.out.add HZ1.out ((Calm.refl _).alloc _) hown9 hg9,FrE.of (HC.out.trans ((Calm.refl _).alloc _)) hg9⟩,Fresh.of (HC.out.trans ((Calm.refl _).alloc _)) hfr9⟩
   |have HD : Hid ((ColE w0 (w9.setCell ⟨G,0,none⟩ (.slice A9 n9 c9)) G (.slice A9 n9 c9) (zs ++ [z]) ∧ FrE w (w9.setCell ⟨G,0,none⟩ (.slice A9 n9 c9)) G (.slice A Z c)) ∧ Fresh w (.slice A Z c) (.slice A9 n9 c9)):=⟨⟨HH1.out.add HZ1.out (Below.drew ((Calm.refl _).alloc _)) hown9 hg9,FrE.of (HC.out.trans (Below.drew ((Calm.refl _).alloc _))) hg9⟩,Fresh.of (HC.out.trans (Below.drew ((Calm.refl _).alloc _))) hfr9⟩
   |have HD : Hid ((ColE w0 (w9.setCell ⟨G,0,none⟩ (.slice A9 n9 c9)) G (.slice A9 n9 c9) (zs ++ [z]) ∧ FrE w (w9.setCell ⟨G,0,none⟩ (.slice A9 n9 c9)) G (.slice A Z c)) ∧ Fresh w (.slice A Z c) (.slice A9 n9 c9)):=⟨⟨HH1.out.add HZ1.out (((Calm.refl _).drewN _).alloc _) hown9 hg9,FrE.of (HC.out.trans (((Calm.refl _).drewN _).alloc _)) hg9⟩,Fresh.of (HC.out.trans (((Calm.refl _).drewN _).alloc _)) hfr9⟩
   |have HD : Hid ((ColE w0 (w9.setCell ⟨G,0,none⟩ (.slice A9 n9 c9)) G (.slice A9 n9 c9) (zs ++ [z]) ∧ FrE w (w9.setCell ⟨G,0,none⟩ (.slice A9 n9 c9)) G (.slice A Z c)) ∧ Fresh w (.slice A Z c) (.slice A9 n9 c9)):=⟨⟨HH1.out.add HZ1.out (((Calm.refl _).alloc _).drewN _) hown9 hg9,FrE.of (HC.out.trans (((Calm.refl _).alloc _).drewN _)) hg9⟩,Fresh.of (HC.out.trans (((Calm.refl _).alloc _).drewN _)) hfr9⟩
  go_wp2_with fail
  exact bodyPost_end (v:=.tuple #[]) (results_none rfl _ _ _) rfl ⟨rfl,_,HD.out.1,HD.out.2⟩
end Go.Proofs.YtnlnclefedohkaaGreatDoor
