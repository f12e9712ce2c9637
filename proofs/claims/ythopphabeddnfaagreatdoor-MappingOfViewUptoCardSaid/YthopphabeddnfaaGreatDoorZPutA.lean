/- Walk: mapping.put, where reduce does what it should. -/
import Derived.Deep.RegionLaw
import Derived.Test.YthopphabeddnfaaGreatDoorZEntM
import Derived.Test.YthopphabeddnfaaGreatDoorZRegB
import Derived.Test.YthopphabeddnfaaGreatDoorZMapA
import Derived.Test.YthopphabeddnfaaGreatDoorZPatsB
import Derived.Test.YthopphabeddnfaaGreatDoorZEntL
import Derived.Test.YthopphabeddnfaaGreatDoorZMapR
import Derived.Test.YthopphabeddnfaaGreatDoorZCopyP
set_option linter.unusedVariables false
set_option linter.unusedSimpArgs false
namespace Go.Proofs.YthopphabeddnfaaGreatDoor
open Go Go.RowKit Sy

theorem OwnX.putE {α : Type} {enc : α → List Value} {K : Nat} {T : TypeId} {w0 w : World} {v : Value} {l : List α} (h : OwnX enc K T w0 w v l) {p : Addr} (u : Value) (hge : w0.heap.size ≤ p.block) (hne : some p.block ≠ v.ownBlock) : OwnX enc K T w0 (w.setCell p u) v l:=by
 refine ⟨Below.setCell h.calm hge _,h.own.1,?_⟩
 rcases h.own.2 with h2 | ⟨g,cap,cur,hv,hg,hh,r⟩
 ·exact .inl h2
 ·refine .inr ⟨g,cap,cur,hv,hg,?_,r⟩
  rw [Deep.blk_setCell_other _ _ _ _ (fun e=>hne (by rw [← e,hv];rfl))]
  exact hh
theorem results_none {fn : Func} (h : fn.results = #[]) (tmps : Array Value) (P : Program) (w : World) : (results fn tmps).run P w = .ok (.tuple #[]) w:=by
 simp only [results,h]
 simp [Sem.run_bind,Result.andThen]
theorem EntN.set {w : World} {B : Nat} {x : NewE} (h : EntN w B x) {p : Addr} (u : Value) (hp : p.block < B) : EntN (w.setCell p u) B x:=⟨h.l.set u hp,h.r.set u hp,h.h.set u hp,h.few⟩
structure ColE (w0 w : World) (G : Nat) (v : Value) (zs : List NewE) : Prop where
 own : OwnX encE 5 40 w0 w v zs
 lo : w0.heap.size ≤ G
 kind : ∃ cs,w.heap[G]? = some (.cells cs 68 (0,0))
 c0 : w.cell? ⟨G,0,none⟩ = some v
 c1 : w.cell? ⟨G,1,none⟩ = some (.bool false)
 each : ∀ z ∈ zs,EntN w (G + 1) z
theorem ColE.lt {w0 w : World} {G : Nat} {v : Value} {zs : List NewE} (h : ColE w0 w G v zs) : G < w.heap.size:=by
 obtain ⟨cs,hh⟩:=h.kind
 exact heap_lt hh
theorem ColE.f {w0 w : World} {G : Nat} {v : Value} {zs : List NewE} (h : ColE w0 w G v zs) (o : Nat) : w.frozen? ⟨G,o,none⟩ = false:=by
 obtain ⟨cs,hh⟩:=h.kind
 exact frozen_of_row w G o cs _ hh
theorem ColE.calm {w0 w w' : World} {G : Nat} {v : Value} {zs : List NewE} (h : ColE w0 w G v zs) (hc : Calm w w') : ColE w0 w' G v zs:=
 ⟨h.own.to hc,h.lo,by obtain ⟨cs,hh⟩:=h.kind;exact ⟨cs,(hc.block _ h.lt).trans hh⟩,hc.at_ h.c0 h.lt,hc.at_ h.c1 h.lt,fun z hz=>(h.each z hz).calm hc⟩
theorem ColE.new {w0 w : World} (hc : Calm w0 w) : ColE w0 (w.alloc (.cells #[.slice none 0 0,.bool false] 68)) w.heap.size (.slice none 0 0) []:=
 ⟨OwnX.nil (hc.alloc _),hc.size,⟨_,heap_alloc_new w _⟩,by simp [go_sem],by simp [go_sem],fun z hz=>by cases hz⟩
theorem ColE.ne {w0 w : World} {G : Nat} {v : Value} {zs : List NewE} (h : ColE w0 w G v zs) : some G ≠ v.ownBlock:=h.own.kindne (by decide) h.kind
theorem ColE.add {w0 w w2 w3 : World} {G : Nat} {v v' : Value} {zs : List NewE} {z : NewE} (h : ColE w0 w G v zs) (hz : EntN w (G + 1) z) (hc : Calm w w2) (hown : OwnX encE 5 40 w0 w3 v' (zs ++ [z])) (hg : w2.grownBy w3 v.ownBlock) : ColE w0 (w3.setCell ⟨G,0,none⟩ v') G v' (zs ++ [z]):=by
 have h2:=h.calm hc
 have hb:=hg.block G h2.lt h2.ne
 obtain ⟨cs,hh⟩:=h2.kind
 have hh3 : w3.heap[G]? = some (.cells cs 68 (0,0)):=hb.trans hh
 have k0 : w3.cell? ⟨G,0,none⟩ = some v:=(World.cell?_of_block (a:=⟨G,0,none⟩) hb).trans h2.c0
 refine ⟨hown.putE v' h.lo (hown.kindne (by decide) ⟨cs,hh3⟩),h.lo,⟨cs.setIfInBounds 0 v',by simp [World.setCell,Array.getElem?_modify,hh3]⟩,World.cell?_setCell_same' _ _ _ (by rw [k0];rfl),(World.cell?_setCell_other _ _ _ _ (by simp)).trans ((World.cell?_of_block (a:=⟨G,1,none⟩) hb).trans h2.c1),fun y hy=>?_⟩
 have hy3 : EntN w3 (G + 1) y:=by
  rcases List.mem_append.1 hy with hy | hy
  ·exact (h2.each y hy).own (by decide) (by decide) h2.own.own hg
  ·rw [List.mem_singleton] at hy
   subst hy
   exact (hz.calm hc).own (by decide) (by decide) h2.own.own hg
 exact hy3.set v' (Nat.lt_succ_self _)
theorem ColE.after {w0 w w2 w3 : World} {G : Nat} {v : Value} {zs : List NewE} (h : ColE w0 w G v zs) (hc : Calm w w2) (hg : w2.grownBy w3 v.ownBlock) : w3.cell? ⟨G,0,none⟩ = some v ∧ w3.frozen? ⟨G,0,none⟩ = false:=by
 have h2:=h.calm hc
 have hb:=hg.block G h2.lt h2.ne
 exact ⟨(World.cell?_of_block (a:=⟨G,0,none⟩) hb).trans h2.c0,(World.frozen?_of_block (a:=⟨G,0,none⟩) hb).trans (h2.f 0)⟩
theorem ColE.shape {w0 w : World} {G : Nat} {v : Value} {zs : List NewE} (h : ColE w0 w G v zs) : ∃ A c,v = .slice A zs.length c ∧ zs.length ≤ c ∧ c ≤ 9223372036854775807 ∧ ReadX encE 5 w A zs:=by
 rcases h.own.row encE_len with ⟨rfl,rfl⟩ | ⟨g,c,rfl,h1,h2,_,hr⟩
 ·exact ⟨none,0,rfl,Nat.le_refl _,by omega,fun h=>absurd rfl h⟩
 ·exact ⟨_,c,rfl,h1,h2,fun _=>⟨g,0,rfl,hr.lt,fun k x hk i u hu=>hr.cell k x hk i u hu⟩⟩
def FrE (w w' : World) (G : Nat) (v : Value) : Prop:=∀ b,b < w.heap.size → b ≠ G → some b ≠ v.ownBlock → w'.heap[b]? = w.heap[b]?
theorem FrE.of {w w2 w3 : World} {G : Nat} {v u : Value} (hc : Calm w w2) (hg : w2.grownBy w3 v.ownBlock) : FrE w (w3.setCell ⟨G,0,none⟩ u) G v:=fun b hb hbG hbv=>by
 have h1:=hg.block b (Nat.lt_of_lt_of_le hb hc.size) hbv
 rw [Deep.blk_setCell_other _ _ _ _ (fun e=>hbG (by rw [e]))]
 exact h1.trans (hc.block b hb)
set_option maxHeartbeats 4000000 in
theorem addE_c (w0 w : World) (G : Nat) (v : Value) (zs : List NewE) (z : NewE) (nl nr hn : Nat) (lr rr : Bool) (h : ColE w0 w G v zs) (hz : EntN w (G + 1) z) (hl : zs.length < 32) (hnl : z.e.left.parts.length = nl) (hnr : z.e.right.parts.length = nr) (hhn : z.e.hs.length = hn) (hlr : z.e.left.rest = lr) (hrr : z.e.right.rest = rr) :
  Calls Tryz.prog 58 #[.pointer (some ⟨G,0,none⟩),entV z.LA z.RA z.HA nl z.lc nr z.rc hn z.hc lr rr] w fun e w'=>e = .returned (.tuple #[]) ∧ ∃ v',ColE w0 w' G v' (zs ++ [z]) ∧ FrE w w' G v:=by
 obtain ⟨A,c,hv,_,_,_⟩:=h.shape
 obtain ⟨Z,hZ⟩ : ∃ Z,zs.length = Z:=⟨_,rfl⟩
 rw [hZ] at hl hv
 subst hv
 have HH:=Lib.hid h
 have HZ:=Lib.hid hz
 have HN:=Lib.hid (And.intro hnl (And.intro hnr (And.intro hhn (And.intro hlr hrr))))
 have HL:=Lib.hid hZ
 obtain ⟨w1,hw1⟩ : ∃ w1,w1 = w.alloc (.cells #[.slice z.LA nl z.lc,.bool lr,.slice z.RA nr z.rc,.bool rr,.slice z.HA hn z.hc] 40):=⟨_,rfl⟩
 obtain ⟨B,hB⟩ : ∃ B,w.heap.size = B:=⟨_,rfl⟩
 have hc1 : Calm w w1:=by rw [hw1];exact (Calm.refl _).alloc _
 have hb1 : FiveB w1 B (.slice z.LA nl z.lc) (.bool lr) (.slice z.RA nr z.rc) (.bool rr) (.slice z.HA hn z.hc):=by
  rw [hw1,← hB]
  exact FiveB.new w _ _ _ _ _ _
 have hzw1 : EntN w1 (G + 1) z:=hz.calm hc1
 have HZ1:=Lib.hid hzw1
 have hh1:=h.calm hc1
 have kw0:=h.c0
 have hGw:=h.lt
 have k0:=hh1.c0
 have k1:=hh1.c1
 have f0:=hh1.f 0
 have b0:=hb1.c0
 have b1:=hb1.c1
 have b2:=hb1.c2
 have b3:=hb1.c3
 have b4:=hb1.c4
 have HW:=Lib.hid hw1
 have HBs:=Lib.hid hB
 have HC:=Lib.hid hc1
 have HB1:=Lib.hid hb1
 have HH1:=Lib.hid hh1
 clear h hz hzw1 hnl hnr hhn hlr hrr hZ hw1 hc1 hb1 hh1 hB
 have hne : ((Z : Int) == 32) = false:=by
  rw [beq_eq_false_iff_ne]
  omega
 have HK : Hid (∀ W,Calm w1 W → W.cell? ⟨G,0,none⟩ = some (.slice A Z c) ∧ W.cell? ⟨B,0,none⟩ = some (.slice z.LA nl z.lc) ∧ W.cell? ⟨B,1,none⟩ = some (.bool lr) ∧ W.cell? ⟨B,2,none⟩ = some (.slice z.RA nr z.rc) ∧ W.cell? ⟨B,3,none⟩ = some (.bool rr) ∧ W.cell? ⟨B,4,none⟩ = some (.slice z.HA hn z.hc)):=fun W hW=>
  have hb:=HB1.out.calm hW
  ⟨(HH1.out.calm hW).c0,hb.c0,hb.c1,hb.c2,hb.c3,hb.c4⟩
 go_enter Tryz.func58,Tryz.ntmps58
 go_wp2_with fail
 rw [← HW.out,HBs.out]
 have HSF : Hid (∀ W W' : World,Calm w1 W → W.grownBy W' (Value.slice A Z c).ownBlock → W'.cell? ⟨G,0,none⟩ = some (.slice A Z c) ∧ W'.frozen? ⟨G,0,none⟩ = false):=fun W W' hW hg=>HH1.out.after hW hg
 have HKB : Hid (∀ W W' : World,Calm w1 W → W.grownBy W' (Value.slice A Z c).ownBlock → W'.cell? ⟨B,0,none⟩ = some (.slice z.LA nl z.lc) ∧ W'.cell? ⟨B,1,none⟩ = some (.bool lr) ∧ W'.cell? ⟨B,2,none⟩ = some (.slice z.RA nr z.rc) ∧ W'.cell? ⟨B,3,none⟩ = some (.bool rr) ∧ W'.cell? ⟨B,4,none⟩ = some (.slice z.HA hn z.hc)):=fun W W' hW hg=>by
  have hb:=HB1.out.calm hW
  have hk:=hg.block B hb.lt (fun e=>by
   have h1:=HH.out.own.blk_lt e
   have h2:=HBs.out
   omega)
  exact ⟨(World.cell?_of_block (a:=⟨B,0,none⟩) hk).trans hb.c0,(World.cell?_of_block (a:=⟨B,1,none⟩) hk).trans hb.c1,(World.cell?_of_block (a:=⟨B,2,none⟩) hk).trans hb.c2,(World.cell?_of_block (a:=⟨B,3,none⟩) hk).trans hb.c3,(World.cell?_of_block (a:=⟨B,4,none⟩) hk).trans hb.c4⟩
 have hG1:=HH1.out.lt
 have kd0 : w1.drew.cell? ⟨G,0,none⟩ = some (.slice A Z c):=(HK.out _ (Below.drew (Calm.refl _))).1
 have hBG : ¬ B = G:=by
  have h1:=HH.out.lt
  have h2:=HBs.out
  omega
 have hGB : ¬ G = B:=fun e=>hBG e.symm
 have HSet : Hid (∀ W W' : World,∀ u,Calm w1 W → W.grownBy W' (Value.slice A Z c).ownBlock → (W'.setCell ⟨G,0,none⟩ u).cell? ⟨B,0,none⟩ = some (.slice z.LA nl z.lc) ∧ (W'.setCell ⟨G,0,none⟩ u).cell? ⟨B,1,none⟩ = some (.bool lr) ∧ (W'.setCell ⟨G,0,none⟩ u).cell? ⟨B,2,none⟩ = some (.slice z.RA nr z.rc) ∧ (W'.setCell ⟨G,0,none⟩ u).cell? ⟨B,3,none⟩ = some (.bool rr) ∧ (W'.setCell ⟨G,0,none⟩ u).cell? ⟨B,4,none⟩ = some (.slice z.HA hn z.hc)):=fun W W' u hW hg=>by
  have h:=HKB.out W W' hW hg
  have hk : (W'.setCell ⟨G,0,none⟩ u).heap[B]? = W'.heap[B]?:=Deep.blk_setCell_other _ _ _ _ hBG
  exact ⟨(World.cell?_of_block (a:=⟨B,0,none⟩) hk).trans h.1,(World.cell?_of_block (a:=⟨B,1,none⟩) hk).trans h.2.1,(World.cell?_of_block (a:=⟨B,2,none⟩) hk).trans h.2.2.1,(World.cell?_of_block (a:=⟨B,3,none⟩) hk).trans h.2.2.2.1,(World.cell?_of_block (a:=⟨B,4,none⟩) hk).trans h.2.2.2.2⟩
 go_region_law ((refine step_append_xs (enc:=encE) (K:=5) (T:=40) Tryz.underlying24 info_ent rfl (by decide) (by decide) encE_len encE_one rfl (.tmp 17) (.tmp 19) rfl w0 (.slice A Z c) zs [z] (by simp [Act.eval,Act.put]) (HH1.out.own.to (by first | exact (Calm.refl _).alloc _ | exact (Below.drew (Calm.refl _)).alloc _ | exact Below.drew ((Calm.refl _).alloc _) | exact ((Calm.refl _).drewN _).alloc _ | exact ((Calm.refl _).alloc _).drewN _)) _ 1 1 rfl rfl (read_newE z rfl HN.out.1 HN.out.2.2.2.1 HN.out.2.1 HN.out.2.2.2.2 HN.out.2.2.1) (by rw [HL.out];omega) ?_;intro v9 w9 hown9 hg9;have hs9:=HSF.out _ _ (by first | exact (Calm.refl _).alloc _ | exact (Below.drew (Calm.refl _)).alloc _ | exact Below.drew ((Calm.refl _).alloc _) | exact ((Calm.refl _).drewN _).alloc _ | exact ((Calm.refl _).alloc _).drewN _) hg9;have k9:=hs9.1;have f9:=hs9.2;obtain ⟨A9,n9,c9,rfl⟩:=hown9.shape))
 all_goals
  first
   |have HD : Hid (ColE w0 (w9.setCell ⟨G,0,none⟩ (.slice A9 n9 c9)) G (.slice A9 n9 c9) (zs ++ [z]) ∧ FrE w (w9.setCell ⟨G,0,none⟩ (.slice A9 n9 c9)) G (.slice A Z c)):=⟨HH1.out.add HZ1.out ((Below.drew (Calm.refl _)).alloc _) hown9 hg9,FrE.of (HC.out.trans ((Below.drew (Calm.refl _)).alloc _)) hg9⟩
   |have HD : Hid (ColE w0 (w9.setCell ⟨G,0,none⟩ (.slice A9 n9 c9)) G (.slice A9 n9 c9) (zs ++ [z]) ∧ FrE w (w9.setCell ⟨G,0,none⟩ (.slice A9 n9 c9)) G (.slice A Z c)):=⟨HH1.out.add HZ1.out ((Calm.refl _).alloc _) hown9 hg9,FrE.of (HC.out.trans ((Calm.refl _).alloc _)) hg9⟩
   |have HD : Hid (ColE w0 (w9.setCell ⟨G,0,none⟩ (.slice A9 n9 c9)) G (.slice A9 n9 c9) (zs ++ [z]) ∧ FrE w (w9.setCell ⟨G,0,none⟩ (.slice A9 n9 c9)) G (.slice A Z c)):=⟨HH1.out.add HZ1.out (Below.drew ((Calm.refl _).alloc _)) hown9 hg9,FrE.of (HC.out.trans (Below.drew ((Calm.refl _).alloc _))) hg9⟩
   |have HD : Hid (ColE w0 (w9.setCell ⟨G,0,none⟩ (.slice A9 n9 c9)) G (.slice A9 n9 c9) (zs ++ [z]) ∧ FrE w (w9.setCell ⟨G,0,none⟩ (.slice A9 n9 c9)) G (.slice A Z c)):=⟨HH1.out.add HZ1.out (((Calm.refl _).drewN _).alloc _) hown9 hg9,FrE.of (HC.out.trans (((Calm.refl _).drewN _).alloc _)) hg9⟩
   |have HD : Hid (ColE w0 (w9.setCell ⟨G,0,none⟩ (.slice A9 n9 c9)) G (.slice A9 n9 c9) (zs ++ [z]) ∧ FrE w (w9.setCell ⟨G,0,none⟩ (.slice A9 n9 c9)) G (.slice A Z c)):=⟨HH1.out.add HZ1.out (((Calm.refl _).alloc _).drewN _) hown9 hg9,FrE.of (HC.out.trans (((Calm.refl _).alloc _).drewN _)) hg9⟩
  go_wp2_with fail
  exact bodyPost_end (v:=.tuple #[]) (results_none rfl _ _ _) rfl ⟨rfl,_,HD.out.1,HD.out.2⟩
end Go.Proofs.YthopphabeddnfaaGreatDoor
set_option linter.unusedVariables false
set_option linter.unusedSimpArgs false
namespace Go.Proofs.YthopphabeddnfaaGreatDoor
open Go Go.RowKit

theorem resultE_c (g : Nat) (v : Value) (w : World) (k0 : w.cell? ⟨g,0,none⟩ = some v) (k1 : w.cell? ⟨g,1,none⟩ = some (.bool false)) (A : Option Addr) (n c : Nat) (hv : v = .slice A n c) :
  Calls Tryz.prog 33 #[.pointer (some ⟨g,0,none⟩)] w fun e w'=>e = .returned (.tuple #[.slice A n c,.int .i64 0]) ∧ w = w':=by
 subst hv
 go_enter Tryz.func33,Tryz.ntmps33
 go_wp2_with fail
 go_ret2
 exact ⟨rfl,rfl⟩
theorem resultE_full (g : Nat) (w : World) (k1 : w.cell? ⟨g,1,none⟩ = some (.bool true)) :
  Calls Tryz.prog 33 #[.pointer (some ⟨g,0,none⟩)] w fun e w'=>e = .returned (.tuple #[.slice none 0 0,.int .i64 72]) ∧ w = w':=by
 go_enter Tryz.func33,Tryz.ntmps33
 go_wp2_with fail
 go_ret2
 exact ⟨rfl,rfl⟩
end Go.Proofs.YthopphabeddnfaaGreatDoor
set_option linter.unusedVariables false
set_option linter.unusedSimpArgs false
namespace Go.Proofs.YthopphabeddnfaaGreatDoor
open Go Go.RowKit Sy

end Go.Proofs.YthopphabeddnfaaGreatDoor
set_option linter.unusedVariables false
set_option linter.unusedSimpArgs false
namespace Go.Proofs.YthopphabeddnfaaGreatDoor
open Go Go.RowKit Sy

end Go.Proofs.YthopphabeddnfaaGreatDoor
set_option linter.unusedVariables false
set_option linter.unusedSimpArgs false
namespace Go.Proofs.YthopphabeddnfaaGreatDoor
open Go Go.RowKit Sy
def FrB (w w' : World) (B : Nat) : Prop:=∀ b,B ≤ b → b < w.heap.size → w'.heap[b]? = w.heap[b]?
theorem FrB.calm {w w' w2 : World} {B : Nat} (h : FrB w w' B) (hc : Calm w' w2) (hs : w.heap.size ≤ w'.heap.size) : FrB w w2 B:=fun b hb hbs=>(hc.block b (Nat.lt_of_lt_of_le hbs hs)).trans (h b hb hbs)
structure ColFull (T : TypeId) (w0 w : World) (G : Nat) : Prop where
 calm : Calm w0 w
 lo : w0.heap.size ≤ G
 kind : ∃ cs,w.heap[G]? = some (.cells cs T (0,0))
 c0 : ∃ A c,w.cell? ⟨G,0,none⟩ = some (.slice A 32 c)
 c1 : w.cell? ⟨G,1,none⟩ = some (.bool true)
theorem ColFull.lt {T : TypeId} {w0 w : World} {G : Nat} (h : ColFull T w0 w G) : G < w.heap.size:=by
 obtain ⟨cs,hh⟩:=h.kind
 exact heap_lt hh
theorem ColFull.to {T : TypeId} {w0 w w' : World} {G : Nat} (h : ColFull T w0 w G) (hc : Calm w w') : ColFull T w0 w' G:=
 ⟨h.calm.trans hc,h.lo,by obtain ⟨cs,hh⟩:=h.kind;exact ⟨cs,(hc.block _ h.lt).trans hh⟩,by obtain ⟨A,c,k⟩:=h.c0;exact ⟨A,c,hc.at_ k h.lt⟩,hc.at_ h.c1 h.lt⟩
theorem colFull_of {T : TypeId} {w0 w w1 : World} {G c : Nat} {A : Option Addr} {v1 : Value} (h0 : Calm w0 w) (hlo : w0.heap.size ≤ G) (hk : ∃ cs,w.heap[G]? = some (.cells cs T (0,0))) (k0 : w.cell? ⟨G,0,none⟩ = some (.slice A 32 c)) (k1 : w.cell? ⟨G,1,none⟩ = some v1) (hc : Calm w w1) : ColFull T w0 (w1.setCell ⟨G,1,none⟩ (.bool true)) G ∧ FrB w (w1.setCell ⟨G,1,none⟩ (.bool true)) (G + 1):=by
 obtain ⟨cs,hh⟩:=hk
 have hlt:=heap_lt hh
 have hh1 : w1.heap[G]? = some (.cells cs T (0,0)):=(hc.block _ hlt).trans hh
 refine ⟨⟨Below.setCell (h0.trans hc) hlo _,hlo,⟨cs.setIfInBounds 1 (.bool true),by simp [World.setCell,Array.getElem?_modify,hh1]⟩,⟨A,c,(World.cell?_setCell_other _ _ _ _ (by simp)).trans (hc.at_ k0 hlt)⟩,World.cell?_setCell_same' _ _ _ (by rw [hc.at_ k1 hlt];rfl)⟩,fun b hb hbs=>?_⟩
 rw [Deep.blk_setCell_other _ _ _ _ (fun e=>absurd (show G = b from e.symm) (by omega))]
 exact hc.block b hbs
def ColA (w0 w : World) (G : Nat) (es : List Ent) : Prop:=(∃ v zs,ColE w0 w G v zs ∧ zs.map (·.e) = es ∧ es.length ≤ 32) ∨ (32 < es.length ∧ ColFull 68 w0 w G)
theorem ColA.to {w0 w w' : World} {G : Nat} {es : List Ent} (h : ColA w0 w G es) (hc : Calm w w') : ColA w0 w' G es:=by
 rcases h with ⟨v,zs,h1,h2,h3⟩ | ⟨h1,h2⟩
 ·exact .inl ⟨v,zs,h1.calm hc,h2,h3⟩
 ·exact .inr ⟨h1,h2.to hc⟩
theorem ColA.lt {w0 w : World} {G : Nat} {es : List Ent} (h : ColA w0 w G es) : G < w.heap.size:=by
 rcases h with ⟨v,zs,h1,_⟩ | ⟨_,h2⟩
 ·exact h1.lt
 ·exact h2.lt
theorem ColA.calm {w0 w : World} {G : Nat} {es : List Ent} (h : ColA w0 w G es) : Calm w0 w:=by
 rcases h with ⟨v,zs,h1,_⟩ | ⟨_,h2⟩
 ·exact h1.own.calm
 ·exact h2.calm
set_option maxHeartbeats 4000000 in
theorem addE_full (w0 w : World) (G : Nat) (A : Option Addr) (c : Nat) (bv : Bool) (LA RA HA : Option Addr) (nl lc nr rc hn hcap : Nat) (lr rr : Bool) (h0 : Calm w0 w) (hlo : w0.heap.size ≤ G) (hk : ∃ cs,w.heap[G]? = some (.cells cs 68 (0,0))) (k0 : w.cell? ⟨G,0,none⟩ = some (.slice A 32 c)) (k1 : w.cell? ⟨G,1,none⟩ = some (.bool bv)) :
  Calls Tryz.prog 58 #[.pointer (some ⟨G,0,none⟩),entV LA RA HA nl lc nr rc hn hcap lr rr] w fun e w'=>e = .returned (.tuple #[]) ∧ ColFull 68 w0 w' G ∧ FrB w w' (G + 1):=by
 obtain ⟨w1,hw1⟩ : ∃ w1,w1 = w.alloc (.cells #[.slice LA nl lc,.bool lr,.slice RA nr rc,.bool rr,.slice HA hn hcap] 40):=⟨_,rfl⟩
 have hc1 : Calm w w1:=by rw [hw1];exact (Calm.refl _).alloc _
 have HD:=Lib.hid (colFull_of h0 hlo hk k0 k1 (Calm.refl w))
 have HW:=Lib.hid hw1
 have hlt : G < w.heap.size:=by
  obtain ⟨cs,hh⟩:=hk
  exact heap_lt hh
 have f1 : w.frozen? ⟨G,1,none⟩ = false:=by
  obtain ⟨cs,hh⟩:=hk
  exact frozen_of_row w G 1 cs _ hh
 clear hw1 hc1 h0 hlo hk
 go_enter Tryz.func58,Tryz.ntmps58
 go_wp2_with fail
 exact bodyPost_ret (v:=.tuple #[]) (results_none rfl _ _ _) rfl ⟨rfl,HD.out.1.to ((Calm.refl _).alloc _),HD.out.2.calm ((Calm.refl _).alloc _) (by simp)⟩
theorem addE_a (w0 wq w : World) (G : Nat) (es : List Ent) (z : NewE) (nl nr hn : Nat) (lr rr : Bool) (h : ColA w0 wq G es) (hq : Calm wq w) (hz : EntN w (G + 1) z) (hnl : z.e.left.parts.length = nl) (hnr : z.e.right.parts.length = nr) (hhn : z.e.hs.length = hn) (hlr : z.e.left.rest = lr) (hrr : z.e.right.rest = rr) :
  Calls Tryz.prog 58 #[.pointer (some ⟨G,0,none⟩),entV z.LA z.RA z.HA nl z.lc nr z.rc hn z.hc lr rr] w fun e w'=>e = .returned (.tuple #[]) ∧ ColA w0 w' G (es ++ [z.e]) ∧ FrB w w' wq.heap.size:=by
 have hGq:=h.lt
 rcases h with ⟨v,zs,h1,rfl,h3⟩ | ⟨h1,h2⟩
 ·have hw:=h1.calm hq
  rw [List.length_map] at h3
  by_cases h32 : zs.length < 32
  ·refine (addE_c w0 w G v zs z nl nr hn lr rr hw hz h32 hnl hnr hhn hlr hrr).mono ?_
   rintro e w' ⟨he,v',hc,hf⟩
   refine ⟨he,.inl ⟨v',_,hc,by rw [List.map_append];rfl,by rw [List.length_append,List.length_map];simp only [List.length_cons,List.length_nil];omega⟩,fun b hb hbs=>hf b hbs (by omega) (fun e=>?_)⟩
   have:=h1.own.blk_lt e
   omega
  ·have h32' : zs.length = 32:=by omega
   obtain ⟨A,c,rfl,_,_,_⟩:=hw.shape
   rw [h32'] at hw
   refine (addE_full w0 w G A c false z.LA z.RA z.HA nl z.lc nr z.rc hn z.hc lr rr hw.own.calm hw.lo hw.kind hw.c0 hw.c1).mono ?_
   rintro e w' ⟨he,hc,hf⟩
   refine ⟨he,.inr ⟨by rw [List.length_append,List.length_map,h32'];simp,hc⟩,fun b hb hbs=>hf b (by omega) hbs⟩
 ·have hw:=h2.to hq
  obtain ⟨A,c,k0⟩:=hw.c0
  refine (addE_full w0 w G A c true z.LA z.RA z.HA nl z.lc nr z.rc hn z.hc lr rr hw.calm hw.lo hw.kind k0 hw.c1).mono ?_
  rintro e w' ⟨he,hc,hf⟩
  refine ⟨he,.inr ⟨by rw [List.length_append];omega,hc⟩,fun b hb hbs=>hf b (by omega) hbs⟩
def ResE (w0 : World) (es : List Ent) (e : Ending) (w' : World) : Prop:=if 32 < es.length then e = .returned (.tuple #[.slice none 0 0,.int .i64 72]) else
 ∃ A c,e = .returned (.tuple #[.slice A es.length c,.int .i64 0]) ∧ es.length ≤ c ∧ c ≤ 9223372036854775807 ∧ ∃ zs : List NewE,zs.map (·.e) = es ∧ ReadX encE 5 w' A zs ∧ ∀ z ∈ zs,EntN w' w0.heap.size z
theorem resultE_a (w0 w : World) (G : Nat) (es : List Ent) (h : ColA w0 w G es) : Calls Tryz.prog 33 #[.pointer (some ⟨G,0,none⟩)] w fun e w'=>ResE w0 es e w' ∧ Calm w0 w':=by
 unfold ResE
 rcases h with ⟨v,zs,h1,rfl,h3⟩ | ⟨h1,h2⟩
 ·simp only [show ¬ 32 < (List.map (fun x : NewE=>x.e) zs).length from by omega,if_false]
  obtain ⟨A,c,hv,g1,g2,g3⟩:=h1.shape
  refine (resultE_c G v w h1.c0 h1.c1 A zs.length c hv).mono ?_
  rintro e w' ⟨rfl,rfl⟩
  rw [List.length_map]
  exact ⟨⟨A,c,rfl,g1,g2,zs,rfl,g3,fun z hz=>(h1.each z hz).mono (by have:=h1.lo;omega)⟩,h1.own.calm⟩
 ·simp only [if_pos h1]
  refine (resultE_full G w h2.c1).mono ?_
  rintro e w' ⟨rfl,rfl⟩
  exact ⟨rfl,h2.calm⟩
end Go.Proofs.YthopphabeddnfaaGreatDoor
set_option linter.unusedVariables false
set_option linter.unusedSimpArgs false
namespace Go.Proofs.YthopphabeddnfaaGreatDoor
open Go Go.RowKit Sy
def RdEnd (b : Pat) (ps : List Pat) (B : Nat) (e : Ending) (w' : World) : Prop:=if 64 < (redL b ps).length then e = .returned (.tuple #[.agg #[.slice none 0 0,.bool false,.slice none 0 0],.bool false,.int .i64 72]) else
 ∃ A2 c2 HA2 hc2,e = .returned (.tuple #[.agg #[.slice A2 b.parts.length c2,.bool b.rest,.slice HA2 (redL b ps).length hc2],.bool (!(leastLen b (redL b ps) == 0)),.int .i64 0]) ∧ NewS w' B A2 c2 b.parts ∧ PatsN w' B HA2 hc2 (redL b ps)
def PutEnd (w0 w' : World) (G : Nat) (es : List Ent) (n : Rule) (ps : List Pat) (e : Ending) : Prop:=match putH n ps with
 |none=>e = .returned (.int .i64 72) ∧ ColA w0 w' G es
 |some none=>e = .returned (.int .i64 0) ∧ ColA w0 w' G es
 |some (some x)=>e = .returned (.int .i64 0) ∧ ColA w0 w' G (es ++ [x])
theorem putH_far {n : Rule} {ps : List Pat} (h : 64 < (redL n.left ps).length) : putH n ps = none:=by rw [putH,if_pos h]
theorem putH_void {n : Rule} {ps : List Pat} (h : ¬ 64 < (redL n.left ps).length) (h2 : leastLen n.left (redL n.left ps) = 0) : putH n ps = some none:=by rw [putH,if_neg h,if_pos h2]
theorem putH_one {n : Rule} {ps : List Pat} (h : ¬ 64 < (redL n.left ps).length) (h2 : leastLen n.left (redL n.left ps) ≠ 0) : putH n ps = some (some ⟨n.left,n.right,redL n.left ps⟩):=by rw [putH,if_neg h,if_neg h2]
set_option maxHeartbeats 8000000 in
theorem put_k (w0 wq w : World) (G : Nat) (es : List Ent) (n : Rule) (ps : List Pat) (a : Pl) (ex : Bool) (nl nr N pc : Nat) (lr rr : Bool) (PA : Option Addr) (h : ColA w0 wq G es) (hq : Calm wq w) (hL : PatA w a.AL a.cl n.left) (hR : PatA w a.AR a.cr n.right) (hnl : n.left.parts.length = nl) (hnr : n.right.parts.length = nr) (hlr : n.left.rest = lr) (hrr : n.right.rest = rr)
  (KRd : ∀ W,Calm w W → Calls Tryz.prog 57 #[.agg #[.slice a.AL nl a.cl,.bool lr],.slice PA N pc] W fun e w'=>RdEnd n.left ps W.heap.size e w' ∧ Calm W w') :
  Calls Tryz.prog 32 #[.pointer (some ⟨G,0,none⟩),.agg #[.bool ex,.slice a.AL nl a.cl,.bool lr,.slice a.AR nr a.cr,.bool rr],.slice PA N pc] w fun e w'=>PutEnd w0 w' G es n ps e ∧ FrB w w' wq.heap.size:=by
 obtain ⟨w1,hw1⟩ : ∃ w1,w1 = w.alloc (.cells #[.bool ex,.slice a.AL nl a.cl,.bool lr,.slice a.AR nr a.cr,.bool rr] 44):=⟨_,rfl⟩
 obtain ⟨B,hB⟩ : ∃ B,w.heap.size = B:=⟨_,rfl⟩
 have hc1 : Calm w w1:=by rw [hw1];exact (Calm.refl w).alloc _
 have hb1 : FiveB w1 B (.bool ex) (.slice a.AL nl a.cl) (.bool lr) (.slice a.AR nr a.cr) (.bool rr):=by
  rw [hw1,← hB]
  exact FiveB.new w _ _ _ _ _ _
 have hBw : w1.heap.size = B + 1:=by rw [hw1,← hB];simp
 obtain ⟨gm,hgm⟩ : ∃ gm,(redL n.left ps).length = gm:=⟨_,rfl⟩
 have KR0:=KRd w1 hc1
 unfold RdEnd at KR0
 rw [hgm,hnl,hlr,hBw] at KR0
 have HH:=Lib.hid h
 have HQ0:=Lib.hid hq
 have hGq:=h.lt
 have HW:=Lib.hid hw1
 have HC:=Lib.hid hc1
 have HB:=Lib.hid hb1
 have HBs:=Lib.hid hB
 by_cases h64 : 64 < gm
 ·simp only [if_pos h64] at KR0
  have HP : Hid (putH n ps = none):=putH_far (by rw [hgm];exact h64)
  have HK:=Lib.hid KR0
  clear h hq hL hR hnl hnr hlr hrr KRd hw1 hB hc1 hb1 hBw hgm KR0 h64
  go_enter Tryz.func32,Tryz.ntmps32
  go_wp2_with fail
  rw [← HW.out]
  refine HK.out.mono ?_
  rintro e w3 ⟨rfl,hc3⟩
  have HC3 : Hid (Calm w w3):=HC.out.trans hc3
  clear hc3
  go_wp2_with fail
  go_ret
  refine ⟨?_,fun b hb hbs=>(HC3.out.alloc _).block b hbs⟩
  unfold PutEnd
  rw [HP.out]
  exact ⟨rfl,HH.out.to (HQ0.out.trans (HC3.out.alloc _))⟩
 ·simp only [if_neg h64] at KR0
  obtain ⟨vz,hvz⟩ : ∃ vz,(leastLen n.left (redL n.left ps) == 0) = vz:=⟨_,rfl⟩
  simp only [hvz] at KR0
  cases vz with
  |true=>
   have HP : Hid (putH n ps = some none):=putH_void (by rw [hgm];exact h64) (by simpa using hvz)
   have HK:=Lib.hid KR0
   clear h hq hL hR hnl hnr hlr hrr KRd hw1 hB hc1 hb1 hBw hgm KR0 h64 hvz
   go_enter Tryz.func32,Tryz.ntmps32
   go_wp2_with fail
   rw [← HW.out]
   refine HK.out.mono ?_
   rintro e w3 ⟨⟨A2,c2,HA2,hc2,rfl,hS,hQ⟩,hc3⟩
   have HC3 : Hid (Calm w w3):=HC.out.trans hc3
   clear hc3 hS hQ
   go_wp2_with fail
   go_ret
   refine ⟨?_,fun b hb hbs=>(HC3.out.alloc _).block b hbs⟩
   unfold PutEnd
   rw [HP.out]
   exact ⟨rfl,HH.out.to (HQ0.out.trans (HC3.out.alloc _))⟩
  |false=>
   have HP : Hid (putH n ps = some (some ⟨n.left,n.right,redL n.left ps⟩)):=putH_one (by rw [hgm];exact h64) (by simpa using hvz)
   have HK:=Lib.hid KR0
   have HN:=Lib.hid (And.intro hnl (And.intro hnr (And.intro hlr (And.intro hrr hgm))))
   have HPs:=Lib.hid (And.intro hL hR)
   have KCp : Hid (∀ W,Calm w1 W → Calls Tryz.prog 17 #[.agg #[.slice a.AR nr a.cr,.bool rr]] W fun e w'=>(∃ A c,e = .returned (.agg #[.slice A nr c,.bool rr]) ∧ NewS w' W.heap.size A c n.right.parts) ∧ Calm W w'):=fun W hW=>by
    have:=copy_c n.right a.AR a.cr W (hR.r.calm (hc1.trans hW)).toU
    unfold CopyEnd at this
    rw [hnr,hrr] at this
    exact this
   have HBw:=Lib.hid hBw
   have HGB : Hid (G < B):=by
    show G < B
    rw [← hB]
    exact Nat.lt_of_lt_of_le h.lt hq.size
   have HH64:=Lib.hid h64
   clear h hq hL hR hnl hnr hlr hrr KRd hw1 hB hc1 hb1 hBw hgm KR0 h64 hvz
   go_enter Tryz.func32,Tryz.ntmps32
   go_wp2_with fail
   rw [← HW.out,HBs.out]
   refine HK.out.mono ?_
   rintro e w3 ⟨⟨A2,c2,HA2,hc2,rfl,hS,hQ⟩,hc3⟩
   obtain ⟨w4,hw4⟩ : ∃ w4,w4 = w3.alloc (.cells #[.slice A2 nl c2,.bool lr,.slice HA2 gm hc2] 48):=⟨_,rfl⟩
   obtain ⟨D,hD⟩ : ∃ D,w3.heap.size = D:=⟨_,rfl⟩
   have hc4 : Calm w3 w4:=by
    show Below _ _ _
    rw [hw4]
    exact (Calm.refl _).alloc _
   have hg4 : RgB w4 D (.slice A2 nl c2) (.bool lr) (.slice HA2 gm hc2):=by rw [hw4,← hD];exact RgB.new w3 _ _ _
   have HS4 : Hid (NewS w4 (B + 1) A2 c2 n.left.parts):=hS.calm hc4
   have HQ4 : Hid (PatsN w4 (B + 1) HA2 hc2 (redL n.left ps)):=hQ.calm hc4
   have HC14 : Hid (Calm w1 w4):=Calm.trans hc3 hc4
   have HBD : Hid (B < D):=by
    show B < D
    have h1:=hc3.size
    have h2:=HBw.out
    omega
   have HB4 : Hid (FiveB w4 B (.bool ex) (.slice a.AL nl a.cl) (.bool lr) (.slice a.AR nr a.cr) (.bool rr)):=HB.out.calm HC14.out
   have HG4:=Lib.hid hg4
   have HC04 : Hid (Calm w w4):=HC.out.trans HC14.out
   have HW4:=Lib.hid hw4
   have HDs:=Lib.hid hD
   have HBsz : Hid (B + 1 ≤ w4.heap.size):=by
    show B + 1 ≤ w4.heap.size
    have h1:=HC14.out.size
    have h2:=HBw.out
    omega
   clear hS hQ hc3 hc4 hg4 hw4 hD
   go_wp2_with fail
   rw [← HW4.out,HDs.out]
   have HK5 : Hid (∀ W : World,Calm w4 W → W.cell? ⟨D,0,none⟩ = some (.slice A2 nl c2) ∧ W.cell? ⟨D,1,none⟩ = some (.bool lr) ∧ W.cell? ⟨D,2,none⟩ = some (.slice HA2 gm hc2) ∧ W.cell? ⟨B,3,none⟩ = some (.slice a.AR nr a.cr) ∧ W.cell? ⟨B,4,none⟩ = some (.bool rr)):=fun W hW=>
    ⟨(HG4.out.calm hW).c0,(HG4.out.calm hW).c1,(HG4.out.calm hW).c2,(HB4.out.calm hW).c3,(HB4.out.calm hW).c4⟩
   have HFr : Hid (∀ W W' : World,Calm w4 W → FrB W W' wq.heap.size → W'.cell? ⟨D,0,none⟩ = some (.slice A2 nl c2) ∧ W'.cell? ⟨D,1,none⟩ = some (.bool lr) ∧ W'.cell? ⟨D,2,none⟩ = some (.slice HA2 gm hc2) ∧ W'.cell? ⟨B,3,none⟩ = some (.slice a.AR nr a.cr) ∧ W'.cell? ⟨B,4,none⟩ = some (.bool rr)):=fun W W' hW hf=>by
    have hd:=(HG4.out.calm hW)
    have hb:=(HB4.out.calm hW)
    have hbd:=HBD.out
    have hbs:=HBs.out
    have hqs:=HQ0.out.size
    have e1:=hf D (by omega) hd.lt
    have e2:=hf B (by omega) hb.lt
    exact ⟨(World.cell?_of_block (a:=⟨D,0,none⟩) e1).trans hd.c0,(World.cell?_of_block (a:=⟨D,1,none⟩) e1).trans hd.c1,(World.cell?_of_block (a:=⟨D,2,none⟩) e1).trans hd.c2,(World.cell?_of_block (a:=⟨B,3,none⟩) e2).trans hb.c3,(World.cell?_of_block (a:=⟨B,4,none⟩) e2).trans hb.c4⟩
   have KA : Hid (∀ W A9 c9,Calm w4 W → NewS W (B + 1) A9 c9 n.right.parts → Calls Tryz.prog 58 #[.pointer (some ⟨G,0,none⟩),.agg #[.slice A2 nl c2,.bool lr,.slice A9 nr c9,.bool rr,.slice HA2 gm hc2]] W fun e w'=>e = .returned (.tuple #[]) ∧ ColA w0 w' G (es ++ [⟨n.left,n.right,redL n.left ps⟩]) ∧ FrB W w' wq.heap.size):=fun W A9 c9 hW h9=>by
    have hgb:=HGB.out
    refine addE_a w0 wq W G es ⟨A2,c2,A9,c9,HA2,hc2,⟨n.left,n.right,redL n.left ps⟩⟩ nl nr gm lr rr HH.out (HQ0.out.trans (HC04.out.trans hW)) ⟨⟨(HS4.out.calm hW).mono (by omega),HPs.out.1.r.len,HPs.out.1.r.each⟩,⟨h9.mono (by omega),HPs.out.2.r.len,HPs.out.2.r.each⟩,(HQ4.out.calm hW).mono (by omega),?_⟩ HN.out.1 HN.out.2.1 HN.out.2.2.2.2 HN.out.2.2.1 HN.out.2.2.2.1
    have h1:=HH64.out
    have h2:=HN.out.2.2.2.2
    show (redL n.left ps).length ≤ 4194304
    omega
   go_region_held3 (fun W=>W.cell? ⟨D,0,none⟩ = some (.slice A2 nl c2) ∧ W.cell? ⟨D,1,none⟩ = some (.bool lr) ∧ W.cell? ⟨D,2,none⟩ = some (.slice HA2 gm hc2) ∧ W.cell? ⟨B,3,none⟩ = some (.slice a.AR nr a.cr) ∧ W.cell? ⟨B,4,none⟩ = some (.bool rr))
    (first
     |exact HK5.out _ (Calm.refl _)
     |exact HK5.out _ (Below.drew (Calm.refl _))
     |exact HK5.out _ hc48
     |exact HK5.out _ (Below.drew hc48)
     |exact HFr.out _ _ hc48 hf9
     |exact HFr.out _ _ (Below.drew hc48) hf9
     |go_keep)
    (first
     |(go_at_call 17;first
       |(refine (KCp.out _ (HC14.out.trans (Calm.refl _))).mono ?_;rintro e w8 ⟨⟨A9,c9,rfl,hN9⟩,hc8⟩;have hc48 : Calm w4 w8:=hc8;have hN9' : NewS w8 (B + 1) A9 c9 n.right.parts:=hN9.mono HBsz.out)
       |(refine (KCp.out _ (HC14.out.trans (Below.drew (Calm.refl _)))).mono ?_;rintro e w8 ⟨⟨A9,c9,rfl,hN9⟩,hc8⟩;have hc48 : Calm w4 w8:=(Below.drew (Calm.refl _)).trans hc8;have hN9' : NewS w8 (B + 1) A9 c9 n.right.parts:=hN9.mono HBsz.out))
     |(go_at_call 58;refine (KA.out _ _ _ hc48 hN9').mono ?_;rintro e w9 ⟨rfl,hCol9,hf9⟩))
   all_goals
    have HCl:=Lib.hid hCol9
    have HFin : Hid (FrB w w9 wq.heap.size):=fun b hb hbs=>by
     have h1:=HC04.out
     first
      |exact (hf9 b hb (Nat.lt_of_lt_of_le hbs (h1.trans hc48).size)).trans ((h1.trans hc48).block b hbs)
      |exact (hf9 b hb (Nat.lt_of_lt_of_le hbs (h1.trans (Below.drew hc48)).size)).trans ((h1.trans (Below.drew hc48)).block b hbs)
    go_wp2_with fail
    go_ret
    refine ⟨?_,HFin.out⟩
    unfold PutEnd
    rw [HP.out]
    exact ⟨rfl,HCl.out⟩
end Go.Proofs.YthopphabeddnfaaGreatDoor
