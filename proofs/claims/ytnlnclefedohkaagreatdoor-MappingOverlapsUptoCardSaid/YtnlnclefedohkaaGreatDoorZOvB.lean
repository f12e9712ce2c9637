/- What the walks of Overlap and Agreement want. -/
import Derived.RangeFuncWrites
import Derived.RangeFuncNested
import Derived.RangeFuncBound
import Derived.RangeFuncCalls
import Derived.RangeFuncLeaves
import Derived.Shelf.Abstract
import Derived.Shelf.RegionOpen
import Derived.WalkKit
import Derived.OwnWalkIn
import Derived.TacticsInMore
import Derived.LoopNIn
import Derived.LoopIn
import Derived.Sort.CutIn
import Derived.Deep.RegionHeld3
import Derived.OneCell
import Derived.Laws.Rows
import Derived.Deep.OwnRows
import Derived.Lib.AppendZeros
import Derived.Lib.SliceRun
import Derived.Deep.DeepCutAuto
import Derived.Deep.RegionWith
import Derived.Test.YtnlnclefedohkaaGreatDoorZPutA
import Derived.Test.YtnlnclefedohkaaGreatDoorZPutN
import Derived.Test.YtnlnclefedohkaaGreatDoorZChainW
import Derived.Test.YtnlnclefedohkaaGreatDoorZColE
import Derived.Test.YtnlnclefedohkaaGreatDoorZWalkI
import Derived.Test.YtnlnclefedohkaaGreatDoorZConcatP
import Derived.Test.YtnlnclefedohkaaGreatDoorZCheckW
import Derived.Test.YtnlnclefedohkaaGreatDoorZNarW
import Derived.Test.YtnlnclefedohkaaGreatDoorZFixW
import Derived.Test.YtnlnclefedohkaaGreatDoorZCopyP
import Derived.Test.YtnlnclefedohkaaGreatDoorZFwdM
import Derived.Test.YtnlnclefedohkaaGreatDoorZRedM
import Derived.Test.YtnlnclefedohkaaGreatDoorZVoidB
import Derived.Test.YtnlnclefedohkaaGreatDoorZRed3W
import Derived.Test.YtnlnclefedohkaaGreatDoorZGChkU
import Derived.Test.YtnlnclefedohkaaGreatDoorZMapL
set_option linter.unusedVariables false
set_option linter.unusedSimpArgs false
namespace Go.Proofs.YtnlnclefedohkaaGreatDoor
open Go Go.RowKit Sy
def KeepH (w w' : World) (G : Nat) : Prop:=∀ (b : Nat) (o : Obj),G < b → w.heap[b]? = some o → o.isCells = false → w'.heap[b]? = some o
theorem KeepH.calm {w w' : World} {G : Nat} (h : Calm w w') : KeepH w w' G:=fun b o _ ho _=>(h.block b (heap_lt ho)).trans ho
theorem KeepH.after {w w2 w3 : World} {G : Nat} (h : Calm w w2) (hk : KeepH w2 w3 G) : KeepH w w3 G:=fun b o hb ho hc=>hk b o hb ((h.block b (heap_lt ho)).trans ho) hc
theorem KeepH.trans {w w2 w3 : World} {G : Nat} (h : KeepH w w2 G) (hk : KeepH w2 w3 G) : KeepH w w3 G:=fun b o hb ho hc=>hk b o hb (h b o hb ho hc) hc
theorem KeepH.to {w w2 w3 : World} {G : Nat} (h : KeepH w w2 G) (hk : Calm w2 w3) : KeepH w w3 G:=h.trans (KeepH.calm hk)
theorem KeepH.from {w w2 : World} {G B : Nat} (h : KeepH w w2 G) (hs : w.heap.size ≤ w2.heap.size) (hB : G < B) : KeepsFrom B w w2:=⟨hs,fun k o hk ho hc=>h k o (by omega) ho hc⟩
set_option maxHeartbeats 4000000 in
theorem addG_f (w0 w : World) (G : Nat) (v : Value) (zs : List NewG) (z : NewG) (n hn : Nat) (re : Bool) (h : ColG w0 w G v zs) (hz : NewG.ok w (G + 1) z) (hl : zs.length < 32) (hnn : z.g.b.parts.length = n) (hhn : z.g.hs.length = hn) (hre : z.g.b.rest = re) :
  Calls Tryz.prog 37 #[.pointer (some ⟨G,0,none⟩),.agg #[.slice z.A n z.c,.bool re,.slice z.HA hn z.hc]] w fun e w'=>e = .returned (.tuple #[]) ∧ ∃ v',(ColG w0 w' G v' (zs ++ [z]) ∧ FrE w w' G v) ∧ Fresh w v v':=by
 obtain ⟨A,c,hv,_,_,_⟩:=h.shape
 obtain ⟨Z,hZ⟩ : ∃ Z,zs.length = Z:=⟨_,rfl⟩
 rw [hZ] at hl hv
 subst hv
 have HH:=Lib.hid h
 have HZ:=Lib.hid hz
 have HN:=Lib.hid (And.intro hnn (And.intro hhn hre))
 have HL:=Lib.hid hZ
 obtain ⟨w1,hw1⟩ : ∃ w1,w1 = w.alloc (.cells #[.slice z.A n z.c,.bool re,.slice z.HA hn z.hc] 68):=⟨_,rfl⟩
 obtain ⟨B,hB⟩ : ∃ B,w.heap.size = B:=⟨_,rfl⟩
 have hc1 : Calm w w1:=by rw [hw1];exact (Calm.refl _).alloc _
 have hb1 : RgB w1 B (.slice z.A n z.c) (.bool re) (.slice z.HA hn z.hc):=by
  rw [hw1,← hB]
  exact RgB.new w _ _ _
 have hzw1 : NewG.ok w1 (G + 1) z:=RegN.calm hz hc1
 have HZ1:=Lib.hid hzw1
 have hh1:=h.calm hc1
 have kw0:=h.c0
 have hGw:=h.lt
 have k0:=hh1.c0
 have k1:=hh1.c1
 have f0:=hh1.f 0
 have b0:=hb1.c0
 have b1:=hb1.c1
 have b2:=hb1.c2
 have HW:=Lib.hid hw1
 have HBs:=Lib.hid hB
 have HC:=Lib.hid hc1
 have HB1:=Lib.hid hb1
 have HH1:=Lib.hid hh1
 clear h hz hzw1 hnn hhn hre hZ hw1 hc1 hb1 hh1 hB
 have hne : ((Z : Int) == 32) = false:=by
  rw [beq_eq_false_iff_ne]
  omega
 have HK : Hid (∀ W,Calm w1 W → W.cell? ⟨G,0,none⟩ = some (.slice A Z c) ∧ W.cell? ⟨B,0,none⟩ = some (.slice z.A n z.c) ∧ W.cell? ⟨B,1,none⟩ = some (.bool re) ∧ W.cell? ⟨B,2,none⟩ = some (.slice z.HA hn z.hc)):=fun W hW=>
  have hb:=HB1.out.calm hW
  ⟨(HH1.out.calm hW).c0,hb.c0,hb.c1,hb.c2⟩
 go_enter Tryz.func37,Tryz.ntmps37
 go_wp2_with fail
 rw [← HW.out,HBs.out]
 have HSF : Hid (∀ W W' : World,Calm w1 W → W.grownBy W' (Value.slice A Z c).ownBlock → W'.cell? ⟨G,0,none⟩ = some (.slice A Z c) ∧ W'.frozen? ⟨G,0,none⟩ = false):=fun W W' hW hg=>HH1.out.after hW hg
 have HKB : Hid (∀ W W' : World,Calm w1 W → W.grownBy W' (Value.slice A Z c).ownBlock → W'.cell? ⟨B,0,none⟩ = some (.slice z.A n z.c) ∧ W'.cell? ⟨B,1,none⟩ = some (.bool re) ∧ W'.cell? ⟨B,2,none⟩ = some (.slice z.HA hn z.hc)):=fun W W' hW hg=>by
  have hb:=HB1.out.calm hW
  have hk:=hg.block B hb.lt (fun e=>by
   have h1:=HH.out.own.blk_lt e
   have h2:=HBs.out
   omega)
  exact ⟨(World.cell?_of_block (a:=⟨B,0,none⟩) hk).trans hb.c0,(World.cell?_of_block (a:=⟨B,1,none⟩) hk).trans hb.c1,(World.cell?_of_block (a:=⟨B,2,none⟩) hk).trans hb.c2⟩
 have hG1:=HH1.out.lt
 have kd0 : w1.drew.cell? ⟨G,0,none⟩ = some (.slice A Z c):=(HK.out _ (Below.drew (Calm.refl _))).1
 have hBG : ¬ B = G:=by
  have h1:=HH.out.lt
  have h2:=HBs.out
  omega
 have hGB : ¬ G = B:=fun e=>hBG e.symm
 have HSet : Hid (∀ W W' : World,∀ u,Calm w1 W → W.grownBy W' (Value.slice A Z c).ownBlock → (W'.setCell ⟨G,0,none⟩ u).cell? ⟨B,0,none⟩ = some (.slice z.A n z.c) ∧ (W'.setCell ⟨G,0,none⟩ u).cell? ⟨B,1,none⟩ = some (.bool re) ∧ (W'.setCell ⟨G,0,none⟩ u).cell? ⟨B,2,none⟩ = some (.slice z.HA hn z.hc)):=fun W W' u hW hg=>by
  have h:=HKB.out W W' hW hg
  have hk : (W'.setCell ⟨G,0,none⟩ u).heap[B]? = W'.heap[B]?:=Deep.blk_setCell_other _ _ _ _ hBG
  exact ⟨(World.cell?_of_block (a:=⟨B,0,none⟩) hk).trans h.1,(World.cell?_of_block (a:=⟨B,1,none⟩) hk).trans h.2.1,(World.cell?_of_block (a:=⟨B,2,none⟩) hk).trans h.2.2⟩
 go_region_law ((refine step_append_xf (enc:=encG) (K:=3) (T:=68) Tryz.underlying29 info_reg rfl (by decide) (by decide) encG_len encG_one rfl (.tmp 17) (.tmp 19) rfl w0 (.slice A Z c) zs [z] (by simp [Act.eval,Act.put]) (HH1.out.own.to (by first | exact (Calm.refl _).alloc _ | exact (Below.drew (Calm.refl _)).alloc _ | exact Below.drew ((Calm.refl _).alloc _) | exact ((Calm.refl _).drewN _).alloc _ | exact ((Calm.refl _).alloc _).drewN _)) _ 1 1 rfl rfl (read_newN z HN.out.1 HN.out.2.2 HN.out.2.1 rfl) (by rw [HL.out];omega) ?_;intro v9 w9 hown9 hg9 hfr9;have hs9:=HSF.out _ _ (by first | exact (Calm.refl _).alloc _ | exact (Below.drew (Calm.refl _)).alloc _ | exact Below.drew ((Calm.refl _).alloc _) | exact ((Calm.refl _).drewN _).alloc _ | exact ((Calm.refl _).alloc _).drewN _) hg9;have k9:=hs9.1;have f9:=hs9.2;obtain ⟨A9,n9,c9,rfl⟩:=hown9.shape))
 all_goals
  first
   |have HD : Hid ((ColG w0 (w9.setCell ⟨G,0,none⟩ (.slice A9 n9 c9)) G (.slice A9 n9 c9) (zs ++ [z]) ∧ FrE w (w9.setCell ⟨G,0,none⟩ (.slice A9 n9 c9)) G (.slice A Z c)) ∧ Fresh w (.slice A Z c) (.slice A9 n9 c9)):=⟨⟨HH1.out.add HZ1.out ((Below.drew (Calm.refl _)).alloc _) hown9 hg9,FrE.of (HC.out.trans ((Below.drew (Calm.refl _)).alloc _)) hg9⟩,Fresh.of (HC.out.trans ((Below.drew (Calm.refl _)).alloc _)) hfr9⟩
   |have HD : Hid ((ColG w0 (w9.setCell ⟨G,0,none⟩ (.slice A9 n9 c9)) G (.slice A9 n9 c9) (zs ++ [z]) ∧ FrE w (w9.setCell ⟨G,0,none⟩ (.slice A9 n9 c9)) G (.slice A Z c)) ∧ Fresh w (.slice A Z c) (.slice A9 n9 c9)):=⟨⟨HH1.out.add HZ1.out ((Calm.refl _).alloc _) hown9 hg9,FrE.of (HC.out.trans ((Calm.refl _).alloc _)) hg9⟩,Fresh.of (HC.out.trans ((Calm.refl _).alloc _)) hfr9⟩
   |have HD : Hid ((ColG w0 (w9.setCell ⟨G,0,none⟩ (.slice A9 n9 c9)) G (.slice A9 n9 c9) (zs ++ [z]) ∧ FrE w (w9.setCell ⟨G,0,none⟩ (.slice A9 n9 c9)) G (.slice A Z c)) ∧ Fresh w (.slice A Z c) (.slice A9 n9 c9)):=⟨⟨HH1.out.add HZ1.out (Below.drew ((Calm.refl _).alloc _)) hown9 hg9,FrE.of (HC.out.trans (Below.drew ((Calm.refl _).alloc _))) hg9⟩,Fresh.of (HC.out.trans (Below.drew ((Calm.refl _).alloc _))) hfr9⟩
   |have HD : Hid ((ColG w0 (w9.setCell ⟨G,0,none⟩ (.slice A9 n9 c9)) G (.slice A9 n9 c9) (zs ++ [z]) ∧ FrE w (w9.setCell ⟨G,0,none⟩ (.slice A9 n9 c9)) G (.slice A Z c)) ∧ Fresh w (.slice A Z c) (.slice A9 n9 c9)):=⟨⟨HH1.out.add HZ1.out (((Calm.refl _).drewN _).alloc _) hown9 hg9,FrE.of (HC.out.trans (((Calm.refl _).drewN _).alloc _)) hg9⟩,Fresh.of (HC.out.trans (((Calm.refl _).drewN _).alloc _)) hfr9⟩
   |have HD : Hid ((ColG w0 (w9.setCell ⟨G,0,none⟩ (.slice A9 n9 c9)) G (.slice A9 n9 c9) (zs ++ [z]) ∧ FrE w (w9.setCell ⟨G,0,none⟩ (.slice A9 n9 c9)) G (.slice A Z c)) ∧ Fresh w (.slice A Z c) (.slice A9 n9 c9)):=⟨⟨HH1.out.add HZ1.out (((Calm.refl _).alloc _).drewN _) hown9 hg9,FrE.of (HC.out.trans (((Calm.refl _).alloc _).drewN _)) hg9⟩,Fresh.of (HC.out.trans (((Calm.refl _).alloc _).drewN _)) hfr9⟩
  go_wp2_with fail
  exact bodyPost_end (v:=.tuple #[]) (results_none rfl _ _ _) rfl ⟨rfl,_,HD.out.1,HD.out.2⟩
theorem addG_fullR (w0 w : World) (G : Nat) (A : Option Addr) (c : Nat) (bv : Bool) (LA HA : Option Addr) (nl lc hn hcap : Nat) (lr : Bool) (h0 : Calm w0 w) (hlo : w0.heap.size ≤ G) (hk : ∃ cs,w.heap[G]? = some (.cells cs 70 (0,0))) (k0 : w.cell? ⟨G,0,none⟩ = some (.slice A 32 c)) (k1 : w.cell? ⟨G,1,none⟩ = some (.bool bv)) :
  Calls Tryz.prog 37 #[.pointer (some ⟨G,0,none⟩),.agg #[.slice LA nl lc,.bool lr,.slice HA hn hcap]] w fun e w'=>e = .returned (.tuple #[]) ∧ ColFull 70 w0 w' G ∧ FrB w w' (G + 1) ∧ KeepR w w' G:=by
 obtain ⟨w1,hw1⟩ : ∃ w1,w1 = w.alloc (.cells #[.slice LA nl lc,.bool lr,.slice HA hn hcap] 68):=⟨_,rfl⟩
 have hc1 : Calm w w1:=by rw [hw1];exact (Calm.refl _).alloc _
 have HD:=Lib.hid (colFull_of h0 hlo hk k0 k1 (Calm.refl w))
 have HW:=Lib.hid hw1
 have hlt : G < w.heap.size:=by
  obtain ⟨cs,hh⟩:=hk
  exact heap_lt hh
 have f1 : w.frozen? ⟨G,1,none⟩ = false:=by
  obtain ⟨cs,hh⟩:=hk
  exact frozen_of_row w G 1 cs _ hh
 clear hw1 hc1 h0 hlo hk
 go_enter Tryz.func37,Tryz.ntmps37
 go_wp2_with fail
 exact bodyPost_ret (v:=.tuple #[]) (results_none rfl _ _ _) rfl ⟨rfl,HD.out.1.to ((Calm.refl _).alloc _),HD.out.2.calm ((Calm.refl _).alloc _) (by simp),(KeepR.set1 w G _).trans (KeepR.calm (by simpa using hlt) ((Calm.refl _).alloc _))⟩
theorem addG_n (w0 wq w : World) (G : Nat) (gs : List Reg) (z : NewG) (n hn : Nat) (re : Bool) (h : ColB w0 wq G gs) (hq : Calm wq w) (hz : NewG.ok w (G + 1) z) (hnn : z.g.b.parts.length = n) (hhn : z.g.hs.length = hn) (hre : z.g.b.rest = re) :
  Calls Tryz.prog 37 #[.pointer (some ⟨G,0,none⟩),.agg #[.slice z.A n z.c,.bool re,.slice z.HA hn z.hc]] w fun e w'=>e = .returned (.tuple #[]) ∧ ColB w0 w' G (gs ++ [z.g]) ∧ FrB w w' wq.heap.size ∧ KeepH w w' G ∧ KeepR w w' G:=by
 have hGq:=h.lt
 rcases h with ⟨v,zs,h1,rfl,h3⟩ | ⟨h1,h2⟩
 ·have hw:=h1.calm hq
  rw [List.length_map] at h3
  by_cases h32 : zs.length < 32
  ·refine (addG_f w0 w G v zs z n hn re hw hz h32 hnn hhn hre).mono ?_
   rintro e w' ⟨he,v',⟨hc,hf⟩,hfr⟩
   refine ⟨he,.inl ⟨v',_,hc,by rw [List.map_append];rfl,by rw [List.length_append,List.length_map];simp only [List.length_cons,List.length_nil];omega⟩,fun b hb hbs=>hf b hbs (by omega) (fun e=>?_),fun b o hb ho hcl=>?_,?_⟩
   ·have:=h1.own.blk_lt e
    omega
   ·rw [hf b (heap_lt ho) (by omega) (fun e=>by obtain ⟨cs,hcs⟩:=hw.own.cellsBlock e ho;rw [hcs] at hcl;cases hcl)]
    exact ho
   ·have hcw:=hw.c0
    have hsz : w.heap.size ≤ w'.heap.size:=by
     by_cases hg : w.heap.size = G + 1
     ·have:=hc.lt
      omega
     ·have hgl:=hw.lt
      have hlast:=hf (w.heap.size - 1) (by omega) (by omega)
      by_cases hown : some (w.heap.size - 1) = v.ownBlock
      ·rcases hfr with hfr | ⟨g,hfr,hg2⟩
       ·have:=hc.own.blk_lt (hown.trans hfr.symm)
        omega
       ·have:=hc.own.blk_lt hfr.symm
        omega
      ·have:=hlast hown
       rw [Array.getElem?_eq_getElem (show w.heap.size - 1 < w.heap.size by omega)] at this
       have:=heap_lt this
       omega
    refine ⟨hsz,fun b cs T x hb hfree=>⟨(hf b (heap_lt hb) hfree.1 (hfree.2 v hcw)).trans hb,hfree.1,fun u hu=>?_⟩,fun _ u hu g hg=>?_⟩
    ·obtain rfl : v' = u:=Option.some.inj (hc.c0.symm.trans hu)
     rcases hfr with hfr | ⟨g,hfr,hg⟩
     ·rw [hfr]
      exact hfree.2 v hcw
     ·rw [hfr]
      intro e
      have:=heap_lt hb
      obtain rfl:=Option.some.inj e
      omega
    ·obtain rfl : v' = u:=Option.some.inj (hc.c0.symm.trans hu)
     exact hc.own.blk_lt hg.symm
  ·have h32' : zs.length = 32:=by omega
   obtain ⟨A,c,rfl,_,_,_⟩:=hw.shape
   rw [h32'] at hw
   refine (addG_fullR w0 w G A c false z.A z.HA n z.c hn z.hc re hw.own.calm hw.lo hw.kind hw.c0 hw.c1).mono ?_
   rintro e w' ⟨he,hc,hf,hkr⟩
   exact ⟨he,.inr ⟨by rw [List.length_append,List.length_map,h32'];simp,hc⟩,fun b hb hbs=>hf b (by omega) hbs,fun b o hb ho _=>(hf b hb (heap_lt ho)).trans ho,hkr⟩
 ·have hw:=h2.to hq
  obtain ⟨A,c,k0⟩:=hw.c0
  refine (addG_fullR w0 w G A c true z.A z.HA n z.c hn z.hc re hw.calm hw.lo hw.kind k0 hw.c1).mono ?_
  rintro e w' ⟨he,hc,hf,hkr⟩
  exact ⟨he,.inr ⟨by rw [List.length_append];omega,hc⟩,fun b hb hbs=>hf b (by omega) hbs,fun b o hb ho _=>(hf b hb (heap_lt ho)).trans ho,hkr⟩

/-! ### what is turned -/
theorem RegN.turn {X Y : World} {B : Nat} {A : Option Addr} {c : Nat} {HA : Option Addr} {hc : Nat} {g : Reg} (h : RegN X B A c HA hc g) (t : Turn X Y) : RegN Y B A c HA hc g:=⟨h.base.turn t,h.holes.turn t⟩
theorem ColG.turn {w0 A B : World} {G : Nat} {v : Value} {zs : List NewG} (h : ColG w0 A G v zs) (t : Turn A B) (hc : Calm w0 B) : ColG w0 B G v zs:=
 ⟨h.own.turn t hc,h.lo,by obtain ⟨cs,hh⟩:=h.kind;exact ⟨cs,t.cells _ _ _ _ hh⟩,t.cell h.c0,t.cell h.c1,fun z hz=>RegN.turn (h.each z hz) t⟩
theorem ColB.turn {w0 A B : World} {G : Nat} {gs : List Reg} (h : ColB w0 A G gs) (t : Turn A B) (hc : Calm w0 B) : ColB w0 B G gs:=by
 rcases h with ⟨v,zs,h1,h2,h3⟩ | ⟨h1,h2⟩
 ·exact .inl ⟨v,zs,h1.turn t hc,h2,h3⟩
 ·exact .inr ⟨h1,h2.turn t hc⟩
theorem colB_own {β : Type} (w1 : World) (G : Nat) (f : β → List Reg → Prop) {D : Nat} (hD : w1.heap.size ≤ D) : OwnFrom D (fun (s : β) W=>∃ out,f s out ∧ ColB w1 W G out):=fun s A B row ⟨out,hf,h⟩ hg hr=>
 ⟨out,hf,h.turn (Turn.of hg (fun r e=>(hr r e).2)) (ownFrom_below (β:=Unit) (Nat.le_refl _) hD () A B row h.calm hg hr)⟩
structure FinG (w0 w : World) (A : Option Addr) (c : Nat) (out : List Reg) : Prop where
 room : out.length ≤ c
 cap : c ≤ 9223372036854775807
 ex : ∃ zs : List NewG,zs.map (·.g) = out ∧ ((A = none ∧ zs = []) ∨ ∃ g,A = some ⟨g,0,none⟩ ∧ w0.heap.size ≤ g ∧ RowX encG 3 68 w g 0 zs) ∧ ∀ z ∈ zs,NewG.ok w w0.heap.size z
theorem FinG.set {w0 w : World} {A : Option Addr} {c : Nat} {out : List Reg} (h : FinG w0 w A c out) {p : Addr} (u : Value) (hp : p.block < w0.heap.size) : FinG w0 (w.setCell p u) A c out:=by
 obtain ⟨zs,h1,h2,h3⟩:=h.ex
 refine ⟨h.room,h.cap,zs,h1,h2.imp id ?_,fun z hz=>RegN.set (h3 z hz) u hp⟩
 rintro ⟨g,hA,hg,hr⟩
 exact ⟨g,hA,hg,hr.of_block (Deep.blk_setCell_other _ _ _ _ (by omega))⟩
theorem FinG.turn {w0 A B : World} {ad : Option Addr} {c : Nat} {out : List Reg} (h : FinG w0 A ad c out) (t : Turn A B) : FinG w0 B ad c out:=by
 obtain ⟨zs,h1,h2,h3⟩:=h.ex
 exact ⟨h.room,h.cap,zs,h1,h2.imp id (fun ⟨g,hA,hg,hr⟩=>⟨g,hA,hg,hr.turn t⟩),fun z hz=>RegN.turn (h3 z hz) t⟩
theorem FinG.out {w0 w : World} {A : Option Addr} {c B : Nat} {out : List Reg} (h : FinG w0 w A c out) (hB : B ≤ w0.heap.size) : RegOut out 0 B (.returned (.tuple #[.slice A out.length c,.int .i64 0])) w:=by
 obtain ⟨zs,h1,h2,h3⟩:=h.ex
 refine ⟨A,c,rfl,h.room,h.cap,zs,h1,?_,fun z hz=>RegN.mono (h3 z hz) hB⟩
 rcases h2 with ⟨rfl,rfl⟩ | ⟨g,rfl,_,hr⟩
 ·exact fun hne=>absurd rfl hne
 ·exact fun _=>⟨g,0,rfl,hr.lt,hr.cell⟩
theorem colB_fin (w0 w : World) (G : Nat) (out : List Reg) (h : ColB w0 w G out) :
  (32 < out.length ∧ Calls Tryz.prog 38 #[.pointer (some ⟨G,0,none⟩)] w fun e w'=>e = .returned (.tuple #[.slice none 0 0,.int .i64 72]) ∧ w' = w) ∨
  (out.length ≤ 32 ∧ ∃ A c,FinG w0 w A c out ∧ Calls Tryz.prog 38 #[.pointer (some ⟨G,0,none⟩)] w fun e w'=>e = .returned (.tuple #[.slice A out.length c,.int .i64 0]) ∧ w' = w):=by
 rcases h with ⟨v,zs,h1,rfl,h3⟩ | ⟨h1,h2⟩
 ·refine .inr ⟨h3,?_⟩
  have hr : ∃ A c,v = .slice A zs.length c ∧ FinG w0 w A c (zs.map (·.g)):=by
   have he : ∀ z ∈ zs,NewG.ok w w0.heap.size z:=fun z hz=>RegN.mono (h1.each z hz) (by have:=h1.lo;omega)
   rcases h1.own.row encG_len with ⟨rfl,rfl⟩ | ⟨g,c,rfl,g1,g2,g3,hr⟩
   ·exact ⟨none,0,rfl,Nat.le_refl _,by omega,[],rfl,.inl ⟨rfl,rfl⟩,fun z hz=>by cases hz⟩
   ·exact ⟨_,c,rfl,by rw [List.length_map];exact g1,g2,zs,rfl,.inr ⟨g,rfl,g3,hr⟩,he⟩
  obtain ⟨A,c,hv,hf⟩:=hr
  refine ⟨A,c,hf,(resultG_c G v w h1.c0 h1.c1 A zs.length c hv).mono ?_⟩
  rintro e w' ⟨rfl,rfl⟩
  rw [List.length_map]
  exact ⟨rfl,rfl⟩
 ·refine .inl ⟨h1,(resultG_full G w h2.c1).mono ?_⟩
  rintro e w' ⟨rfl,rfl⟩
  exact ⟨rfl,rfl⟩
end Go.Proofs.YtnlnclefedohkaaGreatDoor
set_option linter.unusedVariables false
set_option linter.unusedSimpArgs false
namespace Go.Proofs.YtnlnclefedohkaaGreatDoor
open Go Go.RowKit Go.Shelf Sy
attribute [local go_sem] Oper.semAt_some
def entZ (z : NewE) : Value:=entV z.LA z.RA z.HA z.e.left.parts.length z.lc z.e.right.parts.length z.rc z.e.hs.length z.hc z.e.left.rest z.e.right.rest
def pz (za zb : List NewE) : List (NewE × NewE):=za.flatMap fun x=>zb.map fun y=>(x,y)
theorem pz_len (za zb : List NewE) : (pz za zb).length = za.length * zb.length:=by
 unfold pz
 induction za with
 |nil=>simp
 |cons x za ih=>rw [List.flatMap_cons,List.length_append,ih,List.length_map,List.length_cons,Nat.succ_mul,Nat.add_comm]
theorem pz_take {za zb : List NewE} {k : Nat} {x : NewE} (h : za[k]? = some x) : pz (za.take (k + 1)) zb = pz (za.take k) zb ++ zb.map fun y=>(x,y):=by
 unfold pz
 rw [List.take_add_one,h,List.flatMap_append]
 simp
theorem pz_part (za zb : List NewE) (k : Nat) : pz (za.take k) zb <+: pz za zb:=by
 refine ⟨pz (za.drop k) zb,?_⟩
 unfold pz
 rw [← List.flatMap_append,List.take_append_drop]
theorem pz_part2 {za zb : List NewE} {k j : Nat} {x : NewE} (h : za[k]? = some x) : pz (za.take k) zb ++ (zb.take j).map (fun y=>(x,y)) <+: pz za zb:=by
 refine List.IsPrefix.trans ?_ (pz_part za zb (k + 1))
 rw [pz_take h]
 refine ⟨(zb.drop j).map fun y=>(x,y),?_⟩
 rw [List.append_assoc,← List.map_append,List.take_append_drop]
theorem pz_lt {za zb : List NewE} {k j : Nat} {x y : NewE} (h : za[k]? = some x) (hj : zb[j]? = some y) : (pz (za.take k) zb ++ (zb.take j).map (fun y=>(x,y))).length < (pz za zb).length:=by
 have h1:=(pz_part2 (za:=za) (zb:=zb) (k:=k) (j:=j + 1) h).length_le
 rw [List.length_append,List.length_map,List.length_take] at h1 ⊢
 have h2:=(List.getElem?_eq_some_iff.1 hj).1
 omega
theorem pz_snoc {za zb : List NewE} {k j : Nat} {x y : NewE} (hj : zb[j]? = some y) : (pz (za.take k) zb ++ (zb.take j).map (fun y=>(x,y))) ++ [(x,y)] = pz (za.take k) zb ++ (zb.take (j + 1)).map (fun y=>(x,y)):=by
 rw [List.append_assoc,List.take_add_one,hj,List.map_append]
 rfl
def PairZ (za zb : List NewE) : Type:={p : NewE × NewE // p.1 ∈ za ∧ p.2 ∈ zb}
structure KpP (w0 : World) (G : Nat) (W W' : World) : Prop where
 below : Below w0.heap.size W W'
 keep : KeepR W W' G
theorem KpP.trans {w0 : World} {G : Nat} {A B C : World} (h : KpP w0 G A B) (k : KpP w0 G B C) : KpP w0 G A C:=⟨h.below.trans k.below,h.keep.trans k.keep⟩
theorem free_new {G : Nat} {W : World} (hr : RowIn G W) (hG : G < W.heap.size) (o : Obj) : Free G (W.alloc o) W.heap.size:=
 ⟨by omega,fun v hv e=>by
  have h:=hr v (cell_back (Below.heap_alloc W o G hG) hv) W.heap.size e.symm
  omega⟩
structure Stay (G : Nat) (W : World) (b : Nat) (cs : Array Value) (T : TypeId) : Prop where
 is : W.heap[b]? = some (.cells cs T (0,0))
 free : Free G W b
theorem Stay.keep {G b : Nat} {W W' : World} {cs : Array Value} {T : TypeId} (h : Stay G W b cs T) (k : KeepR W W' G) : Stay G W' b cs T:=by
 obtain ⟨h1,h2⟩:=k.free b cs T _ h.is h.free
 exact ⟨h1,h2⟩
theorem Stay.lt {G b : Nat} {W : World} {cs : Array Value} {T : TypeId} (h : Stay G W b cs T) : b < W.heap.size:=heap_lt h.is
theorem Stay.cell {G b i : Nat} {W : World} {cs : Array Value} {T : TypeId} (h : Stay G W b cs T) {v : Value} (hv : cs[i]? = some v) : W.cell? ⟨b,i,none⟩ = some v:=by
 simp [World.cell?,show W.heap[b]? = _ from h.is,hv]
theorem Stay.five {G b : Nat} {W : World} {v0 v1 v2 v3 v4 : Value} {T : TypeId} (h : Stay G W b #[v0,v1,v2,v3,v4] T) : FiveB W b v0 v1 v2 v3 v4:=
 ⟨h.lt,h.cell rfl,h.cell rfl,h.cell rfl,h.cell rfl,h.cell rfl,fun o=>by simp [World.frozen?,show W.heap[b]? = _ from h.is]⟩
theorem Stay.new {G : Nat} {W : World} (hr : RowIn G W) (hG : G < W.heap.size) (cs : Array Value) (T : TypeId) : Stay G (W.alloc (.cells cs T)) W.heap.size cs T:=⟨World.alloc_heap_new W _,free_new hr hG _⟩
theorem readE {w : World} {A : Option Addr} {za : List NewE} (h : ReadX encE 5 w A za) {k : Nat} (hk : k < za.length) : ∃ (b o : Nat) (z : NewE),A = some ⟨b,o,none⟩ ∧ b < w.heap.size ∧ za[k]? = some z ∧
  w.cell? ⟨b,o + k * 5,none⟩ = some (.slice z.LA z.e.left.parts.length z.lc) ∧ w.cell? ⟨b,o + k * 5 + 1,none⟩ = some (.bool z.e.left.rest) ∧ w.cell? ⟨b,o + k * 5 + 2,none⟩ = some (.slice z.RA z.e.right.parts.length z.rc) ∧ w.cell? ⟨b,o + k * 5 + 3,none⟩ = some (.bool z.e.right.rest) ∧ w.cell? ⟨b,o + k * 5 + 4,none⟩ = some (.slice z.HA z.e.hs.length z.hc):=by
 obtain ⟨b,o,hA,hb,hc⟩:=h (fun e=>by rw [e] at hk;simp at hk)
 have hz:=List.getElem?_eq_getElem hk
 exact ⟨b,o,za[k],hA,hb,hz,hc k _ hz 0 _ rfl,hc k _ hz 1 _ rfl,hc k _ hz 2 _ rfl,hc k _ hz 3 _ rfl,hc k _ hz 4 _ rfl⟩
theorem entZ_eq {z : NewE} {nl nr nh : Nat} {rl rr : Bool} (h1 : z.e.left.parts.length = nl) (h2 : z.e.right.parts.length = nr) (h3 : z.e.hs.length = nh) (h4 : z.e.left.rest = rl) (h5 : z.e.right.rest = rr) : entZ z = .agg #[.slice z.LA nl z.lc,.bool rl,.slice z.RA nr z.rc,.bool rr,.slice z.HA nh z.hc]:=by
 unfold entZ entV
 rw [h1,h2,h3,h4,h5]
set_option maxRecDepth 100000 in
set_option maxHeartbeats 8000000 in
theorem pairs1_in (n : Nat) (hn : 1 ≤ n) (w0 : World) (l B1 B2 G : Nat) (A A2 : Option Addr) (na ca nb cb : Nat) (za zb : List NewE) (hA : ReadX encE 5 w0 A za) (hA2 : ReadX encE 5 w0 A2 zb) (hna : za.length = na) (hnb : zb.length = nb) (hla : na ≤ 1048576) (hlb : nb ≤ 1048576)
  (J Jx : List (PairZ za zb) → World → Prop)
  (hJ : ∀ pre W o,J pre W → J pre (W.alloc o))
  (hY : ∀ pre x W,J pre W → pre.length < (pz za zb).length → YieldAt Fence.wide (n - 1) Tryz.prog l #[entZ x.1.1,entZ x.1.2] W fun e W'=>
   (e = .returned (.bool true) ∧ J (pre ++ [x]) W' ∧ KpP w0 G W W') ∨ (e = .returned (.bool false) ∧ Jx (pre ++ [x]) W'))
  (W : World) (hc0 : Calm w0 W) (hB1 : W.cell? ⟨B1,0,none⟩ = some (.slice A na ca)) (hB2 : Stay G W B2 #[.slice A2 nb cb] 22) (hr : RowIn G W) (hG : G < W.heap.size) (h0 : J [] W) :
  CallsIn Fence.wide n Tryz.prog 50 #[.func (.yield l) #[] #[],.pointer (some ⟨B1,0,none⟩),.pointer (some ⟨B2,0,none⟩)] W fun e W'=>(∃ v,e = .returned v) ∧
   ((∃ ys : List (PairZ za zb),ys.map (·.1) = pz za zb ∧ J ys W') ∨ (∃ pre : List (PairZ za zb),pre.map (·.1) <+: pz za zb ∧ Jx pre W')):=by
 have HA:=Lib.hid (And.intro hA (And.intro hA2 (And.intro hna hnb)))
 have HS0:=Lib.hid (And.intro hB2 (And.intro hr hG))
 clear hA hA2 hna hnb hB2 hr hG
 refine callsIn_of_wp Tryz.func50 rfl trivial ?_ rfl
 simp only [Tryz.ntmps50,List.size_toArray,List.length_cons,List.length_nil,Nat.reduceAdd,Nat.reduceSub,Array.replicate_succ,Array.replicate_zero,List.push_toArray,List.append_toArray,List.nil_append,List.cons_append]
 gi_wp2
 gi_loopw [10] (fun i wr=>∃ (k : Nat) (pre : List (PairZ za zb)),k ≤ na ∧ i = .int .i64 k ∧ pre.map (·.1) = pz (za.take k) zb ∧ J pre wr ∧ Hid (Calm w0 wr ∧ Stay G wr B2 #[.slice A2 nb cb] 22 ∧ RowIn G wr ∧ G < wr.heap.size))
  (fun i _=>na - (intOf i).toNat)
 case atStart=>exact ⟨0,[],Nat.zero_le _,rfl,rfl,h0,hc0,HS0.out⟩
 case round=>
  obtain ⟨k,pre,hk,rfl,hpre,hJs,HC⟩:=hrel
  by_cases hlt : k < na
  ·obtain ⟨b,o,x,rfl,hb,hx,c0,c1,c2,c3,c4⟩:=readE (HA.out.1.calm HC.out.1) (k:=k) (by rw [HA.out.2.2.1];exact hlt)
   have HX:=Lib.hid hx
   clear hx
   obtain ⟨nl,hnl⟩ : ∃ nl,x.e.left.parts.length = nl:=⟨_,rfl⟩
   obtain ⟨nr,hnr⟩ : ∃ nr,x.e.right.parts.length = nr:=⟨_,rfl⟩
   obtain ⟨nh,hnh⟩ : ∃ nh,x.e.hs.length = nh:=⟨_,rfl⟩
   obtain ⟨rl,hrl⟩ : ∃ rl,x.e.left.rest = rl:=⟨_,rfl⟩
   obtain ⟨rr,hrr⟩ : ∃ rr,x.e.right.rest = rr:=⟨_,rfl⟩
   have HV : Hid (entZ x = .agg #[.slice x.LA nl x.lc,.bool rl,.slice x.RA nr x.rc,.bool rr,.slice x.HA nh x.hc]):=entZ_eq hnl hnr hnh hrl hrr
   rw [hnl] at c0
   rw [hrl] at c1
   rw [hnr] at c2
   rw [hrr] at c3
   rw [hnh] at c4
   clear hnl hnr hnh hrl hrr
   obtain ⟨wx,hwx⟩ : ∃ wx,wx = wr.alloc (.cells #[.slice x.LA nl x.lc,.bool rl,.slice x.RA nr x.rc,.bool rr,.slice x.HA nh x.hc] 43):=⟨_,rfl⟩
   obtain ⟨B,hB⟩ : ∃ B,wr.heap.size = B:=⟨_,rfl⟩
   have hJx : J pre wx:=by rw [hwx];exact hJ _ _ _ hJs
   have hcx : Calm wr wx:=by
    show Below _ _ _
    rw [hwx]
    exact (Calm.refl _).alloc _
   have hkx : KeepR wr wx G:=KeepR.calm HC.out.2.2.2 hcx
   have hsx : Stay G wx B #[.slice x.LA nl x.lc,.bool rl,.slice x.RA nr x.rc,.bool rr,.slice x.HA nh x.hc] 43:=by rw [hwx,← hB];exact Stay.new HC.out.2.2.1 HC.out.2.2.2 _ _
   have HWx:=Lib.hid hwx
   have HBs:=Lib.hid hB
   have HCx : Hid (Calm w0 wx ∧ Stay G wx B2 #[.slice A2 nb cb] 22 ∧ RowIn G wx ∧ G < wx.heap.size):=⟨HC.out.1.trans hcx,HC.out.2.1.keep hkx,hkx.row HC.out.2.2.1,Nat.lt_of_lt_of_le HC.out.2.2.2 hcx.size⟩
   have HSx:=Lib.hid hsx
   have hb2x : wx.cell? ⟨B2,0,none⟩ = some (.slice A2 nb cb):=HCx.out.2.1.cell rfl
   clear hcx hkx hsx hwx hB
   gi_upto_region 3 with (fail)
   rw [← HWx.out,HBs.out]
   clear c0 c1 c2 c3 c4
   gi_wp2
   gi_loopw [16] (fun i wy=>∃ (m : Nat) (pre2 : List (PairZ za zb)),m ≤ nb ∧ i = .int .i64 m ∧ Hid (pre2.map (·.1) = pz (za.take k) zb ++ (zb.take m).map fun y=>(x,y)) ∧ J pre2 wy ∧ Hid ((Calm w0 wy ∧ Stay G wy B2 #[.slice A2 nb cb] 22 ∧ RowIn G wy ∧ G < wy.heap.size) ∧ Stay G wy B #[.slice x.LA nl x.lc,.bool rl,.slice x.RA nr x.rc,.bool rr,.slice x.HA nh x.hc] 43))
    (fun i _=>nb - (intOf i).toNat)
   case atStart=>exact ⟨0,pre,Nat.zero_le _,rfl,by show _ = _;rw [hpre];simp,hJx,HCx.out,HSx.out⟩
   case round=>
    obtain ⟨m,pre2,hm,rfl,HP,hJ2,HD⟩:=hrel
    by_cases hlt2 : m < nb
    ·obtain ⟨b9,o9,y,hA2e,hb9,hy9,d0,d1,d2,d3,d4⟩:=readE (HA.out.2.1.calm HD.out.1.1) (k:=m) (by rw [HA.out.2.2.2];exact hlt2)
     subst hA2e
     have HY9:=Lib.hid hy9
     clear hy9
     obtain ⟨ml,hml⟩ : ∃ ml,y.e.left.parts.length = ml:=⟨_,rfl⟩
     obtain ⟨mr,hmr⟩ : ∃ mr,y.e.right.parts.length = mr:=⟨_,rfl⟩
     obtain ⟨mh,hmh⟩ : ∃ mh,y.e.hs.length = mh:=⟨_,rfl⟩
     obtain ⟨sl,hsl⟩ : ∃ sl,y.e.left.rest = sl:=⟨_,rfl⟩
     obtain ⟨sr,hsr⟩ : ∃ sr,y.e.right.rest = sr:=⟨_,rfl⟩
     have HV2 : Hid (entZ y = .agg #[.slice y.LA ml y.lc,.bool sl,.slice y.RA mr y.rc,.bool sr,.slice y.HA mh y.hc]):=entZ_eq hml hmr hmh hsl hsr
     rw [hml] at d0
     rw [hsl] at d1
     rw [hmr] at d2
     rw [hsr] at d3
     rw [hmh] at d4
     clear hml hmr hmh hsl hsr
     obtain ⟨wz,hwz⟩ : ∃ wz,wz = wr.alloc (.cells #[.slice y.LA ml y.lc,.bool sl,.slice y.RA mr y.rc,.bool sr,.slice y.HA mh y.hc] 43):=⟨_,rfl⟩
     obtain ⟨B9,hB9⟩ : ∃ B9,wr.heap.size = B9:=⟨_,rfl⟩
     have hJz : J pre2 wz:=by rw [hwz];exact hJ _ _ _ hJ2
     have hcz : Calm wr wz:=by
      show Below _ _ _
      rw [hwz]
      exact (Calm.refl _).alloc _
     have hkz : KeepR wr wz G:=KeepR.calm HD.out.1.2.2.2 hcz
     have hsz : Stay G wz B9 #[.slice y.LA ml y.lc,.bool sl,.slice y.RA mr y.rc,.bool sr,.slice y.HA mh y.hc] 43:=by rw [hwz,← hB9];exact Stay.new HD.out.1.2.2.1 HD.out.1.2.2.2 _ _
     have HDz : Hid ((Calm w0 wz ∧ Stay G wz B2 #[.slice (some ⟨b9,o9,none⟩) nb cb] 22 ∧ RowIn G wz ∧ G < wz.heap.size) ∧ Stay G wz B #[.slice x.LA nl x.lc,.bool rl,.slice x.RA nr x.rc,.bool rr,.slice x.HA nh x.hc] 43):=
      ⟨⟨HD.out.1.1.trans hcz,HD.out.1.2.1.keep hkz,hkz.row HD.out.1.2.2.1,Nat.lt_of_lt_of_le HD.out.1.2.2.2 hcz.size⟩,HD.out.2.keep hkz⟩
     have hmem : x ∈ za ∧ y ∈ zb:=⟨List.mem_of_getElem? HX.out,List.mem_of_getElem? HY9.out⟩
     have hlen : pre2.length < (pz za zb).length:=by
      have:=pz_lt HX.out HY9.out
      rw [← HP.out,List.length_map] at this
      exact this
     obtain ⟨fn,tmps,assign,body,hy,hR⟩:=hY pre2 ⟨(x,y),hmem⟩ wz hJz hlen
     dsimp only at hy
     rw [HV.out,HV2.out] at hy
     have HWz:=Lib.hid hwz
     have HBz:=Lib.hid hB9
     have f0:=HDz.out.2.five
     have g0:=hsz.five
     have c0:=f0.c0
     have c1:=f0.c1
     have c2:=f0.c2
     have c3:=f0.c3
     have c4:=f0.c4
     have e0:=g0.c0
     have e1:=g0.c1
     have e2:=g0.c2
     have e3:=g0.c3
     have e4:=g0.c4
     clear hcz hkz hsz hwz hB9 f0 g0
     gi_upto_region 6 with (fail)
     rw [← HWz.out,HBz.out]
     clear d0 d1 d2 d3 d4
     gi_wp2
     refine hR.mono ?_
     rintro e W3 (⟨rfl,hJ3,hk3⟩ | ⟨rfl,hJx3⟩)
     ·gi_wp2
      go_roundw
      case rel=>exact ⟨m + 1,pre2 ++ [⟨(x,y),hmem⟩],by omega,by go_num,by show _ = _;rw [List.map_append,HP.out];exact pz_snoc HY9.out,hJ3,⟨Below.trans HDz.out.1.1 hk3.below,HDz.out.1.2.1.keep hk3.keep,hk3.keep.row HDz.out.1.2.2.1,Nat.lt_of_lt_of_le HDz.out.1.2.2.2 hk3.keep.size⟩,HDz.out.2.keep hk3.keep⟩
      case measure=>simp [intOf];omega
     ·gi_wp2
      refine bodyPost_ret (results_none rfl _ _ _) rfl ?_
      refine ⟨⟨_,rfl⟩,.inr ⟨pre2 ++ [⟨(x,y),hmem⟩],?_,hJx3⟩⟩
      rw [List.map_append,HP.out]
      show pz (za.take k) zb ++ _ ++ [(x,y)] <+: _
      rw [pz_snoc HY9.out]
      exact pz_part2 HX.out
    ·obtain rfl : m = nb:=by omega
     gi_wp2
     go_roundw
     case rel=>exact ⟨k + 1,pre2,by omega,by go_num,by rw [HP.out,pz_take HX.out,List.take_of_length_le (l:=zb) (by rw [HA.out.2.2.2];exact Nat.le_refl _)],hJ2,HD.out.1⟩
     case measure=>simp [intOf];omega
  ·obtain rfl : k = na:=by omega
   gi_wp2
   go_end0
   refine ⟨⟨_,rfl⟩,.inl ⟨pre,?_,hJs⟩⟩
   rw [hpre,List.take_of_length_le (by rw [HA.out.2.2.1];exact Nat.le_refl _)]
theorem pairs_in (n : Nat) (A A2 : Option Addr) (na ca nb cb : Nat) (w : World) :
  CallsIn Fence.wide n Tryz.prog 20 #[.slice A na ca,.slice A2 nb cb] w fun e w'=>e = .returned (.func (.func 50) #[] #[.pointer (some ⟨w.heap.size,0,none⟩),.pointer (some ⟨w.heap.size + 1,0,none⟩)]) ∧ w' = (w.alloc (.cells #[.slice A na ca] 22)).alloc (.cells #[.slice A2 nb cb] 22):=by
 refine callsIn_of_wp Tryz.func20 rfl trivial ?_ rfl
 simp only [Tryz.ntmps20,List.size_toArray,List.length_cons,List.length_nil,Nat.reduceAdd,Nat.reduceSub,Array.replicate_succ,Array.replicate_zero,List.push_toArray,List.append_toArray,List.nil_append,List.cons_append]
 gi_wp2
 go_ret
 exact ⟨rfl,rfl⟩
theorem pairs_stops (n : Nat) (hn : 1 ≤ n) (w0 : World) (B1 B2 G : Nat) (A A2 : Option Addr) (na ca nb cb : Nat) (za zb : List NewE) (hA : ReadX encE 5 w0 A za) (hA2 : ReadX encE 5 w0 A2 zb) (hna : za.length = na) (hnb : zb.length = nb) (hla : na ≤ 1048576) (hlb : nb ≤ 1048576)
  (w : World) (hc0 : Calm w0 w) (hB1 : w.cell? ⟨B1,0,none⟩ = some (.slice A na ca)) (hB2 : Stay G w B2 #[.slice A2 nb cb] 22) (hr : RowIn G w) (hG : G < w.heap.size) :
  SeqStopsK Fence.wide n Tryz.prog 50 #[.pointer (some ⟨B1,0,none⟩),.pointer (some ⟨B2,0,none⟩)] (fun x : PairZ za zb=>#[entZ x.1.1,entZ x.1.2]) (KpP w0 G) (fun ys=>ys.map (·.1) = pz za zb) (fun pre=>pre.map (·.1) <+: pz za zb) (pz za zb).length w:=fun l J Jx W hW hJ hJx hY h0=>by
 have hk : KeepR w W G:=KeepR.calm hG hW
 exact pairs1_in n hn w0 l B1 B2 G A A2 na ca nb cb za zb hA hA2 hna hnb hla hlb J Jx (fun pre X o hj=>hJ pre X _ none hj (World.grownBy_alloc X o none) (fun r e=>by cases e)) hY W (hc0.trans hW) (Calm.at_ hW hB1 (World.block_lt_of_cell? w ⟨B1,0,none⟩ hB1)) (hB2.keep hk) (hk.row hr) (Nat.lt_of_lt_of_le hG hk.size) h0
end Go.Proofs.YtnlnclefedohkaaGreatDoor
set_option linter.unusedVariables false
set_option linter.unusedSimpArgs false
namespace Go.Proofs.YtnlnclefedohkaaGreatDoor
open Go Go.RowKit
def noDefer (ops : Array Oper) : Bool:=ops.all fun o=>match o.op with
 |.defer _=>false
 |_=>true
theorem noDefer_spec {ops : Array Oper} (h : noDefer ops = true) {i : Nat} {o : Oper} (ho : ops[i]? = some o) : ∀ c,o.op ≠ .defer c:=by
 intro c hc
 obtain ⟨hi,rfl⟩:=Array.getElem?_eq_some_iff.1 ho
 have:=Array.all_eq_true.1 h i hi
 rw [hc] at this
 cases this
theorem oper_round {l n : Nat} {P : Program} {o : Oper} {a : Act} {w : World} {K : Act → World → Prop} {Q : Exit → Act → World → Prop} (hd : ∀ c,o.op ≠ .defer c) (h : o.wp P a w K Q) : o.wpIn (Fence.wide.inRound l) n P a w K Q:=by
 unfold Oper.wp at h
 refine ⟨fun _ _=>trivial,?_⟩
 rw [Oper.semAt_plain (Fence.wide.inRound l) _ _ hd]
 generalize (execOp a.eval o).run P w = r at *
 cases r with
 |ok x w'=>
  cases x <;> simp only [Oper.upon,Oper.uponIn] at h ⊢
  case enter f args=>exact ⟨(fun h9=>absurd h9 (by simp [Fence.wide])),CallsIn.inRound l (callsIn_wide.2 h)⟩
  case row row args=>
   refine ⟨(fun h9=>absurd h9 (by simp [Fence.wide])),fun c cs _=>?_⟩
   obtain ⟨v,w2,r,s⟩:=h c cs
   exact ⟨v,w2,r,stepsIn_wide.2 s⟩
  all_goals exact h
 |halt x w'=>cases x <;> simp only [Oper.upon,Oper.uponIn] at h ⊢ <;> exact h
theorem wpOp_round {l n i : Nat} {P : Program} {ops : Array Oper} {a : Act} {w : World} {K : Act → World → Prop} {Q : Exit → Act → World → Prop} (hn : noDefer ops = true) (hq : ¬ LetsOut Q) (h : wpOp P ops Q i K a w) : wpOpIn (Fence.wide.inRound l) n P ops Q i K a w:=by
 unfold wpOp at h
 unfold wpOpIn
 cases ho : ops[i]? with
 |none=>rw [ho] at h;exact h
 |some o=>
  rw [ho] at h
  simp only at h ⊢
  by_cases hw : Region.wanted o (yielded ops a.tmps) = true
  ·rw [if_pos hw] at h ⊢
   exact oper_round (noDefer_spec hn ho) (h.resolve_right fun h2=>hq h2.2)
  ·rw [if_neg hw] at h ⊢
   exact ⟨fun _ _=>trivial,h⟩
theorem wpAny_round {l n : Nat} {P : Program} {md : Region.Mode} {ops : Array Oper} {Q : Exit → Act → World → Prop} (hn : noDefer ops = true) (hq : ¬ LetsOut Q) : ∀ (fuel : Nat) (listed : Array Bool) (a : Act) (w : World),wpAny P md ops Q fuel listed a w → wpAnyIn (Fence.wide.inRound l) n P md ops Q fuel listed a w
 |0,_,_,_,h=>h
 |fuel + 1,_,_,_,h=>⟨h.1,fun i hi=>wpOpIn_mono (fun a' w' h'=>wpAny_round hn hq fuel _ a' w' h') (wpOp_round hn hq (h.2 i hi))⟩
theorem region_round {l n id : Nat} {P : Program} {ops : Array Oper} {Q : Exit → Act → World → Prop} {S : World → Prop} {a : Act} {w : World} (hm : P.follows .mixedOrders = true) (hn : noDefer ops = true) (hq : ¬ LetsOut Q) (hS : S w.drew)
  (h : S w.drew → wpAnyH P .any ops Q S ops.size (Array.replicate ops.size false) a w.drew) : (Code.region id ops true).wpIn (Fence.wide.inRound l) n P Q a w:=
 wpIn_region_any hm (wpAny_round hn hq _ _ _ _ (wpAny_of_held _ _ _ _ (h hS)))
theorem calls_round {n l : Nat} {P : Program} {f : FuncId} {args : Array Value} {w : World} {R : Ending → World → Prop} (h : Calls P f args w R) : CallsIn (Fence.wide.inRound l) n P f args w R:=CallsIn.inRound l (callsIn_wide.2 h)
end Go.Proofs.YtnlnclefedohkaaGreatDoor
set_option linter.unusedVariables false
set_option linter.unusedSimpArgs false
namespace Go.Proofs.YtnlnclefedohkaaGreatDoor
open Go Go.RowKit Sy

end Go.Proofs.YtnlnclefedohkaaGreatDoor
set_option linter.unusedVariables false
set_option linter.unusedSimpArgs false
namespace Go.Proofs.YtnlnclefedohkaaGreatDoor
open Go Go.RowKit Sy

def bothM (es fs : List Ent) : Int:=if (mapE es).2 ≠ 0 then (mapE es).2 else (mapE fs).2
set_option maxHeartbeats 4000000 in
theorem check2_c (es fs : List Ent) (n c n2 c2 g : Nat) (A A2 : Option Addr) (er : Int) (w : World) (h : EntsA w A es) (hcn : n ≤ c) (hcc : c ≤ 9223372036854775807) (hs : ∀ x ∈ es,SmallE x) (hn : es.length = n)
  (h2 : EntsA w A2 fs) (hcn2 : n2 ≤ c2) (hcc2 : c2 ≤ 9223372036854775807) (hs2 : ∀ x ∈ fs,SmallE x) (hn2 : fs.length = n2) (hr : bothM es fs = er) (k0 : w.cell? ⟨g,0,none⟩ = some (.slice A n c)) (k1 : w.cell? ⟨g,1,none⟩ = some (.slice A2 n2 c2)) (hg : g < w.heap.size) :
  Calls Tryz.prog 19 #[.slice (some ⟨g,0,none⟩) 2 2] w fun e w'=>e = .returned (.int .i64 er) ∧ Calm w w':=by
 obtain ⟨ix,hix⟩ : ∃ ix,(mapE es).1 = ix:=⟨_,rfl⟩
 obtain ⟨iy,hiy⟩ : ∃ iy,(mapE fs).1 = iy:=⟨_,rfl⟩
 obtain ⟨ea,hea⟩ : ∃ ea,(mapE es).2 = ea:=⟨_,rfl⟩
 obtain ⟨eb,heb⟩ : ∃ eb,(mapE fs).2 = eb:=⟨_,rfl⟩
 have KC:=check_c es n c A w h hcn hcc hs hn
 rw [hea,hix] at KC
 have HKC:=Lib.hid KC
 have HKD : Hid (∀ W,Calm w W → Calls Tryz.prog 49 #[.slice A2 n2 c2] W fun e w'=>e = .returned (.tuple #[.int .i64 (iy : Nat),.int .i64 eb]) ∧ Calm W w'):=fun W hW=>by
  have:=check_c fs n2 c2 A2 W (h2.calm hW) hcn2 hcc2 hs2 hn2
  rw [heb,hiy] at this
  exact this
 have HE0 : ea ≠ 0 → Hid (er = ea):=fun h0=>by
  show er = ea
  rw [← hr,bothM,hea,if_pos h0]
 have HE1 : ea = 0 → Hid (er = eb):=fun h0=>by
  show er = eb
  rw [← hr,bothM,hea,if_neg (by simpa using h0),heb]
 have HK1:=Lib.hid (And.intro k1 hg)
 clear h hs hn h2 hs2 hn2 hr hix hiy hea heb KC k1
 go_enter Tryz.func19,Tryz.ntmps19
 go_wp2_with fail
 go_loopw [9] (fun u wr=>(u = .int .i64 0 ∧ w = wr) ∨ (u = .int .i64 1 ∧ ea = 0 ∧ Hid (Calm w wr)) ∨ (u = .int .i64 2 ∧ ea = 0 ∧ eb = 0 ∧ Hid (Calm w wr))) (fun u _=>2 - (intOf u).toNat)
 case atStart=>exact .inl ⟨rfl,rfl⟩
 case round=>
  rcases hrel with ⟨rfl,rfl⟩ | ⟨rfl,rfl,HC⟩ | ⟨rfl,rfl,rfl,HC⟩
  ·go_wp2_with fail
   refine HKC.out.mono ?_
   rintro e w2 ⟨rfl,hc2⟩
   by_cases h0 : ea = 0
   ·subst h0
    clear HE0 HE1
    go_wp2_with fail
    go_roundw
    case rel=>exact .inr (.inl ⟨by go_num,trivial,hc2⟩)
    case measure=>simp [intOf]
   ·have hb : (ea != 0) = true:=by simpa using h0
    have HE:=HE0 h0
    clear HE0 HE1
    go_wp2_with fail
    go_ret
    exact ⟨by rw [HE.out];rfl,hc2⟩
  ·have k1:=HC.out.at_ HK1.out.1 HK1.out.2
   have HE:=HE1 rfl
   clear HE0 HE1
   go_wp2_with fail
   refine (HKD.out _ HC.out).mono ?_
   rintro e w2 ⟨rfl,hc2⟩
   have HC2 : Hid (Calm w w2):=HC.out.trans hc2
   by_cases h0 : eb = 0
   ·subst h0
    go_wp2_with fail
    go_roundw
    case rel=>exact .inr (.inr ⟨by go_num,trivial,trivial,HC2.out⟩)
    case measure=>simp [intOf]
   ·have hb : (eb != 0) = true:=by simpa using h0
    go_wp2_with fail
    go_ret
    exact ⟨by rw [HE.out];rfl,HC2.out⟩
  ·have HE:=HE1 rfl
   clear HE0 HE1
   go_wp2_with fail
   go_ret
   exact ⟨by rw [HE.out];rfl,HC.out⟩
end Go.Proofs.YtnlnclefedohkaaGreatDoor
set_option linter.unusedVariables false
set_option linter.unusedSimpArgs false
namespace Go.Proofs.YtnlnclefedohkaaGreatDoor
open Go Go.RowKit Sy

end Go.Proofs.YtnlnclefedohkaaGreatDoor
set_option linter.unusedVariables false
set_option linter.unusedSimpArgs false
namespace Go.Proofs.YtnlnclefedohkaaGreatDoor
open Go Go.RowKit Sy

end Go.Proofs.YtnlnclefedohkaaGreatDoor
set_option linter.unusedVariables false
set_option linter.unusedSimpArgs false
namespace Go.Proofs.YtnlnclefedohkaaGreatDoor
open Go Go.RowKit Go.Shelf Sy
attribute [local go_sem] Oper.semAt_some

theorem results_cc {fn : Func} {p q : Tmp} {t1 t2 : TypeId} (h : fn.results = #[.cell p t1,.cell q t2]) (tmps : Array Value) (P : Program) (w : World) :
  (results fn tmps).run P w = ((asAddr (tmps.getD p undef)).run P w).andThen fun a w₁=>((loadVar t1 a).run P w₁).andThen fun v w₂=>((asAddr (tmps.getD q undef)).run P w₂).andThen fun b w₃=>((loadVar t2 b).run P w₃).andThen fun u w₄=>.ok (.tuple #[v,u]) w₄:=by
 simp only [results,h]
 simp [Sem.run_bind,Result.andThen]
def Ent5 (W : World) (b : Nat) (z : NewE) : Prop:=W.heap[b]? = some (.cells #[.slice z.LA z.e.left.parts.length z.lc,.bool z.e.left.rest,.slice z.RA z.e.right.parts.length z.rc,.bool z.e.right.rest,.slice z.HA z.e.hs.length z.hc] 43 (0,0))
theorem Ent5.turn {A B : World} {b : Nat} {z : NewE} (h : Ent5 A b z) (t : Turn A B) : Ent5 B b z:=t.cells _ _ _ _ h
theorem Ent5.calm {A B : World} {b : Nat} {z : NewE} (h : Ent5 A b z) (hc : Calm A B) : Ent5 B b z:=(hc.block _ (heap_lt h)).trans h
theorem Ent5.five {W : World} {b : Nat} {z : NewE} (h : Ent5 W b z) : FiveB W b (.slice z.LA z.e.left.parts.length z.lc) (.bool z.e.left.rest) (.slice z.RA z.e.right.parts.length z.rc) (.bool z.e.right.rest) (.slice z.HA z.e.hs.length z.hc):=
 ⟨heap_lt h,by simp [World.cell?,show W.heap[b]? = _ from h],by simp [World.cell?,show W.heap[b]? = _ from h],by simp [World.cell?,show W.heap[b]? = _ from h],by simp [World.cell?,show W.heap[b]? = _ from h],by simp [World.cell?,show W.heap[b]? = _ from h],fun o=>by simp [World.frozen?,show W.heap[b]? = _ from h]⟩
def eP {za zb : List NewE} (x : PairZ za zb) : Ent × Ent:=(x.1.1.e,x.1.2.e)
theorem pz_e {za zb : List NewE} {ys : List (PairZ za zb)} (h : ys.map (·.1) = pz za zb) : ys.map eP = pairsL (za.map (·.e)) (zb.map (·.e)):=by
 have e1 : ys.map eP = (ys.map (·.1)).map fun p=>(p.1.e,p.2.e):=by rw [List.map_map];rfl
 rw [e1,h]
 unfold pz pairsL
 rw [List.map_flatMap,List.flatMap_map]
 congr 1
 funext x
 rw [List.map_map,List.map_map]
 rfl
theorem below_two {wR W w8 : World} {n : Nat} (h1 : Calm wR W) (h2 : Calm wR w8) (hn : n ≤ wR.heap.size) (hs : W.heap.size ≤ w8.heap.size) : Below n W w8:=
 ⟨h2.os.trans h1.os.symm,h2.tape.trans h1.tape.symm,h2.output.trans h1.output.symm,hs,fun k hk=>(h2.block k (Nat.lt_of_lt_of_le hk hn)).trans (h1.block k (Nat.lt_of_lt_of_le hk hn)).symm⟩
theorem entA_few {w : World} {z : NewE} (h : EntA w z) (hs : SmallE z.e) (hg : gErr z.e.reg = 0) : EntU w z:=h.u hs (by have : z.e.reg.hs.length ≤ 64:=(gErr_zero hg).2.2;have e : z.e.reg.hs = z.e.hs:=rfl;rw [e] at this;omega)
theorem tk {P : Program} {md : Region.Mode} {ops : Array Oper} {Q : Exit → Act → World → Prop} {S : World → Prop} (i : Nat) {oi : Oper} {v : Value} {fuel : Nat} {listed : Array Bool} {a : Act} {w : World} (hi : ops[i]? = some oi)
  (h : wpAnyH P md ops Q S fuel (listed.setIfInBounds i true) (a.put oi.dst v) w) (hs : Region.noSelect ops = true:=by kernel_rfl) (hf : Region.free md ops listed i = true:=by kernel_rfl) (hr : (Region.ready md ops listed).contains i = true:=by kernel_rfl)
  (hQ : ∀ c a w,Q (.panic c) (a.put oi.dst v) w → Q (.panic c) a w:=by exact fun _ _ _ h=>h) (hy : YieldsIf P ops S oi v a:=by exact Or.inl ⟨by rfl,by intro w9 hS9;(try dsimp only at hS9);go_simp;try with_reducible rfl⟩) (hS : S w:=by assumption) :
  wpAnyH P md ops Q S (fuel + 1) listed a w:=wpAnyH_take hi hs hf hr hQ hy hS h
theorem aP : (∀ {α : Type} {xs : List α} {i : Nat} (h : i < xs.toArray.size),xs.toArray[i] = xs[i]'(by simpa using h)) ∧ (∀ {α : Type} {a : α} {bs : List α} {i : Nat} (h : i + 1 < (a :: bs).length),(a :: bs)[i + 1] = bs[i]'(by simpa using h)) ∧ (∀ {α : Type} {a : α} {bs : List α} (h : 0 < (a :: bs).length),(a :: bs)[0] = a) ∧ (∀ {α : Type} (l : List α) (i : Nat) (a : α),l.toArray.setIfInBounds i a = (l.set i a).toArray) ∧ (∀ {α : Type} {x : α} {xs : List α} {a : α},(x :: xs).set 0 a = a :: xs) ∧ (∀ {α : Type} {x : α} {xs : List α} {i : Nat} {a : α},(x :: xs).set (i + 1) a = x :: xs.set i a):=
 ⟨fun h=>List.getElem_toArray h,fun h=>List.getElem_cons_succ ..,fun h=>List.getElem_cons_zero ..,fun l i a=>List.setIfInBounds_toArray ..,List.set_cons_zero,List.set_cons_succ⟩
end Go.Proofs.YtnlnclefedohkaaGreatDoor
set_option linter.unusedVariables false
set_option linter.unusedSimpArgs false
namespace Go.Proofs.YtnlnclefedohkaaGreatDoor
open Go Go.RowKit Sy
def RowAt (w : World) (B n : Nat) (ls : List Str) : Prop:=∃ cs : Array Value,w.heap[B]? = some (.cells cs 9 (0,0)) ∧ cs.size = n ∧ ∀ (j : Nat) (l : Str),ls[j]? = some l → cs[j]? = some (Value.string (bs l))

theorem RowAt.keep {w w' : World} {B n : Nat} {ls : List Str} (h : RowAt w B n ls) (hk : w'.heap[B]? = w.heap[B]?) : RowAt w' B n ls:=by
 obtain ⟨cs,h1,h2,h3⟩:=h
 exact ⟨cs,hk.trans h1,h2,h3⟩
theorem RowAt.calm {w w' : World} {B n : Nat} {ls : List Str} (h : RowAt w B n ls) (hc : Calm w w') (hB : B < w.heap.size) : RowAt w' B n ls:=h.keep (hc.block B hB)
theorem RowAt.made (w : World) (n : Nat) : RowAt (w.alloc (.cells (madeCells #[.string ByteArray.empty] n) 9)) w.heap.size n []:=
 ⟨_,heap_alloc_new w _,size_madeCells _ _,fun j l h=>by simp at h⟩
theorem RowAt.cell {w : World} {B n : Nat} {ls : List Str} (h : RowAt w B n ls) {j : Nat} {l : Str} (hj : ls[j]? = some l) : w.cell? ⟨B,j,none⟩ = some (.string (bs l)):=by
 obtain ⟨cs,h1,h2,h3⟩:=h
 rw [cell_of_row w B j cs _ _ h1]
 exact h3 j l hj
theorem RowAt.free {w : World} {B n : Nat} {ls : List Str} (h : RowAt w B n ls) (j : Nat) : w.frozen? ⟨B,j,none⟩ = false:=by
 obtain ⟨cs,h1,_,_⟩:=h
 simp [World.frozen?,h1]
theorem RowAt.set {w : World} {B n : Nat} {ls : List Str} (h : RowAt w B n ls) {i : Nat} (hi : i = ls.length) (hn : i < n) (x : Str) : RowAt (w.setCell ⟨B,i,none⟩ (.string (bs x))) B n (ls ++ [x]):=by
 obtain ⟨cs,h1,h2,h3⟩:=h
 refine ⟨cs.setIfInBounds i (.string (bs x)),?_,by simpa using h2,fun j l hj=>?_⟩
 ·simp [World.setCell,Array.getElem?_modify,h1]
 ·by_cases e : j = i
  ·subst e
   rw [hi,List.getElem?_append_right (Nat.le_refl _)] at hj
   simp at hj
   subst hj
   simp [h2,hn]
  ·have hjl : j < ls.length:=by
    have:=(List.getElem?_eq_some_iff.1 hj).1
    simp at this
    omega
   rw [List.getElem?_append_left hjl] at hj
   rw [Array.getElem?_setIfInBounds_ne (Ne.symm e)]
   exact h3 j l hj
structure Inner (w1 : World) (Bk Bi Bc n i : Nat) (ls : List Str) (y : Nat) (w : World) : Prop where
 calm : Calm w1 w
 row : RowAt w Bk n ls
 ci : w.heap[Bi]? = some (.cells #[.int .i64 i] 3 (0,0))
 cc : w.heap[Bc]? = some (.cells #[.int .u64 y] 181 (0,0))
 o1 : w1.heap.size ≤ Bk
 o2 : Bk < Bi
 o3 : Bi < Bc
 o4 : Bc < w.heap.size

section
variable {w1 w w' : World} {Bk Bi Bc n i y : Nat} {ls : List Str}
theorem Inner.next (h : Inner w1 Bk Bi Bc n i ls y w) (hc : Calm w w') : Inner w1 Bk Bi Bc n i ls y w':=
 ⟨h.calm.trans hc,h.row.calm hc (by have:=h.o2;have:=h.o3;have:=h.o4;omega),(hc.block Bi (by have:=h.o3;have:=h.o4;omega)).trans h.ci,(hc.block Bc h.o4).trans h.cc,h.o1,h.o2,h.o3,Nat.lt_of_lt_of_le h.o4 hc.size⟩
theorem Inner.drewN (h : Inner w1 Bk Bi Bc n i ls y w) (m : Nat) : Inner w1 Bk Bi Bc n i ls y (w.drewN m):=h.next ((Calm.refl w).drewN m)
end
end Go.Proofs.YtnlnclefedohkaaGreatDoor
set_option linter.unusedVariables false
set_option linter.unusedSimpArgs false
namespace Go.Proofs.YtnlnclefedohkaaGreatDoor
open Go Go.RowKit Sy

end Go.Proofs.YtnlnclefedohkaaGreatDoor
set_option linter.unusedVariables false
set_option linter.unusedSimpArgs false
namespace Go.Proofs.YtnlnclefedohkaaGreatDoor
open Go Go.RowKit Sy

end Go.Proofs.YtnlnclefedohkaaGreatDoor
set_option linter.unusedVariables false
set_option linter.unusedSimpArgs false
namespace Go.Proofs.YtnlnclefedohkaaGreatDoor
open Go Go.RowKit Sy

end Go.Proofs.YtnlnclefedohkaaGreatDoor
set_option linter.unusedVariables false
set_option linter.unusedSimpArgs false
namespace Go.Proofs.YtnlnclefedohkaaGreatDoor
open Go Go.RowKit Sy

end Go.Proofs.YtnlnclefedohkaaGreatDoor
set_option linter.unusedVariables false
set_option linter.unusedSimpArgs false
namespace Go.Proofs.YtnlnclefedohkaaGreatDoor
open Go Go.RowKit Sy

end Go.Proofs.YtnlnclefedohkaaGreatDoor
set_option linter.unusedVariables false
set_option linter.unusedSimpArgs false
namespace Go.Proofs.YtnlnclefedohkaaGreatDoor
open Go Go.RowKit Sy
structure RegA (w : World) (A : Option Addr) (c : Nat) (HA : Option Addr) (b : Pat) (hs : List Pat) : Prop where
 base : StrsR w A b.parts
 room : b.parts.length ≤ c
 cap : c ≤ 9223372036854775807
 holes : PatsR w HA hs
theorem RegA.calm {w w' : World} {A : Option Addr} {c : Nat} {HA : Option Addr} {b : Pat} {hs : List Pat} (h : RegA w A c HA b hs) (hc : Calm w w') : RegA w' A c HA b hs:=⟨h.base.calm hc,h.room,h.cap,h.holes.calm hc⟩
end Go.Proofs.YtnlnclefedohkaaGreatDoor
set_option linter.unusedVariables false
set_option linter.unusedSimpArgs false
namespace Go.Proofs.YtnlnclefedohkaaGreatDoor
open Go Go.RowKit Sy

theorem RegN.a {w : World} {B : Nat} {A : Option Addr} {c : Nat} {HA : Option Addr} {hc : Nat} {g : Reg} (h : RegN w B A c HA hc g) (hl : g.hs.length ≤ 16384) : RegA w A c HA g.b g.hs:=⟨h.base.a.r,h.base.a.room,h.base.a.cap,h.holes.reads hl⟩

end Go.Proofs.YtnlnclefedohkaaGreatDoor
set_option linter.unusedVariables false
set_option linter.unusedSimpArgs false
namespace Go.Proofs.YtnlnclefedohkaaGreatDoor
open Go Go.RowKit Sy

theorem calm3 {w wr : World} {B o : Nat} (h : Calm w wr) (hB : w.heap.size ≤ B) (u0 u1 u2 : Value) : Calm w (((wr.setCell ⟨B,0,none⟩ u0).setCell ⟨B,1,none⟩ u1).setCell ⟨B,2,none⟩ u2):=
 Below.setCell (Below.setCell (Below.setCell h hB _) hB _) hB _
structure ZeroAt (W : World) (b : Nat) : Prop where
 lt : b < W.heap.size
 z0 : W.cell? ⟨b,0,none⟩ = some (.slice none 0 0)
 z1 : W.cell? ⟨b,1,none⟩ = some (.bool false)
 z2 : W.cell? ⟨b,2,none⟩ = some (.slice none 0 0)
 f0 : W.frozen? ⟨b,0,none⟩ = false
 f1 : W.frozen? ⟨b,1,none⟩ = false
 f2 : W.frozen? ⟨b,2,none⟩ = false
theorem ZeroAt.calm {W W' : World} {b : Nat} (h : ZeroAt W b) (hc : Calm W W') : ZeroAt W' b:=
 ⟨Nat.lt_of_lt_of_le h.lt hc.size,hc.at_ h.z0 h.lt,hc.at_ h.z1 h.lt,hc.at_ h.z2 h.lt,(hc.frozen (p:=⟨b,0,none⟩) h.lt).trans h.f0,(hc.frozen (p:=⟨b,1,none⟩) h.lt).trans h.f1,(hc.frozen (p:=⟨b,2,none⟩) h.lt).trans h.f2⟩
theorem zero_a (w : World) (X : Obj) : ZeroAt ((w.alloc (.cells #[.slice none 0 0,.bool false,.slice none 0 0] 68)).alloc X).drew w.heap.size:=by
 constructor <;> simp [go_sem]
theorem zero_c (w : World) : ZeroAt (w.alloc (.cells #[.slice none 0 0,.bool false,.slice none 0 0] 68)) w.heap.size:=by
 constructor <;> simp [go_sem]
end Go.Proofs.YtnlnclefedohkaaGreatDoor
set_option linter.unusedVariables false
set_option linter.unusedSimpArgs false
namespace Go.Proofs.YtnlnclefedohkaaGreatDoor
open Go Go.RowKit Go.Shelf Sy

theorem KpP.put {w0 W : World} {G l : Nat} {o : Obj} (o' : Obj) (hl0 : w0.heap.size ≤ l) (hG : G < l) (ho : W.heap[l]? = some o) (hc : o.isCells = false) (hw : o.isWalk = false) : KpP w0 G W (W.putObj l o'):=by
 have other : ∀ k,k ≠ l → (W.putObj l o').heap[k]? = W.heap[k]?:=fun k hk=>World.putObj_heap_other (fun e=>hk (by rw [e]))
 refine ⟨belowK_b (w:=w0) (Nat.le_refl _) W l o o' hl0 ho hc hw,by simp,fun b cs T x hb hf=>⟨?_,hf.1,fun v hv=>hf.2 v (cell_back (other G (by omega)) hv)⟩,fun hr v hv g hg=>?_⟩
 ·rw [other b (fun e=>by rw [e,ho] at hb;cases hb;cases hc)]
  exact hb
 ·have:=hr v (cell_back (other G (by omega)) hv) g hg
  simpa using this
theorem boxed_calm {A B : World} {b : Nat} {t : TypeId} {v : Value} (h : Boxed A b t v) (hc : Calm A B) : Boxed B b t v:=(hc.block _ h.lt).trans h
def RedK : Prop:=∀ (b : Pat) (ps : List Pat) (A1 : Option Addr) (c1 : Nat) (PA : Option Addr) (nl N pc : Nat) (lr : Bool) (W : World),PatA W A1 c1 b → PatsR W PA ps → b.parts.length = nl → b.rest = lr → ps.length = N → patErr b = 0 → (∀ p ∈ ps,patErr p = 0) →
 Calls Tryz.prog 35 #[.agg #[.slice A1 nl c1,.bool lr],.slice PA N pc] W fun e w'=>RdEnd b ps W.heap.size e w' ∧ Calm W w'
end Go.Proofs.YtnlnclefedohkaaGreatDoor
set_option linter.unusedVariables false
set_option linter.unusedSimpArgs false
namespace Go.Proofs.YtnlnclefedohkaaGreatDoor
open Go Go.RowKit Go.Shelf Sy

theorem calm2b {w wr : World} {B : Nat} (h : Calm w wr) (hB : w.heap.size ≤ B) (u0 u1 : Value) : Calm w ((wr.setCell ⟨B,0,none⟩ u0).setCell ⟨B,1,none⟩ u1):=Below.setCell (Below.setCell h hB _) hB _
def RdAny (o : Option (Option Reg)) (w' : World) (P : Nat) (A3 : Option Addr) (n3 c3 : Nat) (r3 : Bool) (HA3 : Option Addr) (m3 hc3 : Nat) (so : Bool) (er : Int) : Prop:=
 (o = none ∧ so = false ∧ er = 72) ∨ (o = some none ∧ so = false ∧ er = 0) ∨ ∃ g,o = some (some g) ∧ so = true ∧ er = 0 ∧ g.b.parts.length = n3 ∧ g.b.rest = r3 ∧ g.hs.length = m3 ∧ RegN w' P A3 c3 HA3 hc3 g
theorem rdAny_of {b : Pat} {ps : List Pat} {P : Nat} {e : Ending} {w' : World} (hl : b.parts.length ≤ 16384) (he : ∀ s ∈ b.parts,s.length ≤ 16384) (h : RdEnd b ps P e w') : ∃ A3 n3 c3 r3 HA3 m3 hc3 so er,e = .returned (.tuple #[.agg #[.slice A3 n3 c3,.bool r3,.slice HA3 m3 hc3],.bool so,.int .i64 er]) ∧ RdAny (redG b ps) w' P A3 n3 c3 r3 HA3 m3 hc3 so er:=by
 unfold RdEnd at h
 unfold redG
 by_cases h64 : 64 < (redL b ps).length
 ·rw [if_pos h64] at h ⊢
  exact ⟨none,0,0,false,none,0,0,false,72,h,.inl ⟨rfl,rfl,rfl⟩⟩
 ·rw [if_neg h64] at h ⊢
  obtain ⟨A2,c2,HA2,hc2,h1,h2,h3⟩:=h
  by_cases hz : leastLen b (redL b ps) = 0
  ·rw [if_pos hz]
   refine ⟨A2,_,c2,_,HA2,_,hc2,_,0,h1,.inr (.inl ⟨rfl,?_,rfl⟩)⟩
   rw [hz]
   rfl
  ·rw [if_neg hz]
   refine ⟨A2,_,c2,_,HA2,_,hc2,_,0,h1,.inr (.inr ⟨_,rfl,?_,rfl,rfl,rfl,rfl,regN_of h2 h3 hl he⟩)⟩
   simpa using hz
section
variable {o : Option (Option Reg)} {w' w2 w4 w7 : World} {P P' b B : Nat} {A3 : Option Addr} {n3 c3 : Nat} {r3 : Bool} {HA3 : Option Addr} {m3 hc3 : Nat} {so : Bool} {er : Int}
theorem RdAny.calm (h : RdAny o w' P A3 n3 c3 r3 HA3 m3 hc3 so er) (hc : Calm w' w2) : RdAny o w2 P A3 n3 c3 r3 HA3 m3 hc3 so er:=by
 rcases h with h | h | ⟨g,h1,h2,h3,h4,h5,h6,h7⟩
 ·exact .inl h
 ·exact .inr (.inl h)
 ·exact .inr (.inr ⟨g,h1,h2,h3,h4,h5,h6,h7.calm hc⟩)
theorem RdAny.set (h : RdAny o w' P A3 n3 c3 r3 HA3 m3 hc3 so er) {p : Addr} (u : Value) (hp : p.block < P) : RdAny o (w'.setCell p u) P A3 n3 c3 r3 HA3 m3 hc3 so er:=by
 rcases h with h | h | ⟨g,h1,h2,h3,h4,h5,h6,h7⟩
 ·exact .inl h
 ·exact .inr (.inl h)
 ·exact .inr (.inr ⟨g,h1,h2,h3,h4,h5,h6,h7.set u hp⟩)
theorem RdAny.mono (h : RdAny o w' P A3 n3 c3 r3 HA3 m3 hc3 so er) (hp : P' ≤ P) : RdAny o w' P' A3 n3 c3 r3 HA3 m3 hc3 so er:=by
 rcases h with h | h | ⟨g,h1,h2,h3,h4,h5,h6,h7⟩
 ·exact .inl h
 ·exact .inr (.inl h)
 ·exact .inr (.inr ⟨g,h1,h2,h3,h4,h5,h6,h7.mono hp⟩)
end
structure RdAt (o : Option (Option Reg)) (w5 wx : World) (b B : Nat) (A3 : Option Addr) (n3 c3 : Nat) (r3 : Bool) (HA3 : Option Addr) (m3 hc3 : Nat) (so : Bool) (er : Int) : Prop where
 calm : Calm w5 wx
 c0 : wx.cell? ⟨b,0,none⟩ = some (.slice A3 n3 c3)
 c1 : wx.cell? ⟨b,1,none⟩ = some (.bool r3)
 c2 : wx.cell? ⟨b,2,none⟩ = some (.slice HA3 m3 hc3)
 any : RdAny o wx B A3 n3 c3 r3 HA3 m3 hc3 so er
section
variable {o : Option (Option Reg)} {w4 w7 : World} {P b B : Nat} {A3 : Option Addr} {n3 c3 : Nat} {r3 : Bool} {HA3 : Option Addr} {m3 hc3 : Nat} {so : Bool} {er : Int}
theorem rdAt_set (hz : ZeroAt w7 b) (hcy : Calm w4 w7) (h4 : w4.heap.size ≤ b) (hb : b < P) (hP : B ≤ P) (h : RdAny o w7 P A3 n3 c3 r3 HA3 m3 hc3 so er) :
  RdAt o w4 (((w7.setCell ⟨b,0,none⟩ (.slice A3 n3 c3)).setCell ⟨b,1,none⟩ (.bool r3)).setCell ⟨b,2,none⟩ (.slice HA3 m3 hc3)) b B A3 n3 c3 r3 HA3 m3 hc3 so er:=by
 refine ⟨calm3 (o:=0) hcy h4 _ _ _,?_,?_,?_,(((h.set (p:=⟨b,0,none⟩) _ hb).set (p:=⟨b,1,none⟩) _ hb).set (p:=⟨b,2,none⟩) _ hb).mono hP⟩
 ·rw [World.cell?_setCell_other _ _ _ _ (by simp),World.cell?_setCell_other _ _ _ _ (by simp)]
  exact World.cell?_setCell_same' _ _ _ (by rw [hz.z0];rfl)
 ·rw [World.cell?_setCell_other _ _ _ _ (by simp)]
  exact World.cell?_setCell_same' _ _ _ (by rw [World.cell?_setCell_other _ _ _ _ (by simp),hz.z1];rfl)
 ·exact World.cell?_setCell_same' _ _ _ (by rw [World.cell?_setCell_other _ _ _ _ (by simp),World.cell?_setCell_other _ _ _ _ (by simp),hz.z2];rfl)
theorem rdAt_new (hcy : Calm w4 w7) (hP : B ≤ P) (h : RdAny o w7 P A3 n3 c3 r3 HA3 m3 hc3 so er) :
  RdAt o w4 (w7.alloc (.cells #[.slice A3 n3 c3,.bool r3,.slice HA3 m3 hc3] 68)) w7.heap.size B A3 n3 c3 r3 HA3 m3 hc3 so er:=
 ⟨hcy.alloc _,by simp [go_sem],by simp [go_sem],by simp [go_sem],(h.mono hP).calm ((Calm.refl w7).alloc _)⟩
end
theorem regs_stop {of : Ent → Ent → Option (Option Reg)} {za zb : List NewE} {pre : List (PairZ za zb)} (h : pre.map (·.1) <+: pz za zb) (hc : regsL of (pre.map eP) = none) : regsL of (pairsL (za.map (·.e)) (zb.map (·.e))) = none:=by
 obtain ⟨t,ht⟩:=h
 have e1 : pre.map eP = (pre.map (·.1)).map fun p=>(p.1.e,p.2.e):=by rw [List.map_map];rfl
 have e2 : pairsL (za.map (·.e)) (zb.map (·.e)) = (pz za zb).map fun p=>(p.1.e,p.2.e):=by
  unfold pz pairsL
  rw [List.map_flatMap,List.flatMap_map]
  congr 1
  funext x
  rw [List.map_map,List.map_map]
  rfl
 rw [e2,← ht,List.map_append,regsL_app,← e1,hc]
end Go.Proofs.YtnlnclefedohkaaGreatDoor
