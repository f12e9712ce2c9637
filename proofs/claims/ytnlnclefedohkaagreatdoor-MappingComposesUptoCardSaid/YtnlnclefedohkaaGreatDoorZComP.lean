/- What Compose's walk wants. -/
import Derived.RangeFuncWrites
import Derived.RangeFuncNested
import Derived.RangeFuncBound
import Derived.RangeFuncCalls
import Derived.RangeFuncLeaves
import Derived.Shelf.Abstract
import Derived.Shelf.RegionOpen
import Derived.WalkKit
import Derived.OwnWalkIn
import Derived.TacticsInMore
import Derived.LoopNIn
import Derived.LoopIn
import Derived.Sort.CutIn
import Derived.Deep.RegionHeld3
import Derived.Test.YtnlnclefedohkaaGreatDoorZPutA
import Derived.Test.YtnlnclefedohkaaGreatDoorZColR
import Derived.Test.YtnlnclefedohkaaGreatDoorZColE
import Derived.Test.YtnlnclefedohkaaGreatDoorZChainW
import Derived.Test.YtnlnclefedohkaaGreatDoorZRightW
import Derived.Test.YtnlnclefedohkaaGreatDoorZWalkI
import Derived.Test.YtnlnclefedohkaaGreatDoorZConcatP
import Derived.Test.YtnlnclefedohkaaGreatDoorZCheckW
import Derived.Test.YtnlnclefedohkaaGreatDoorZNarRW
set_option linter.unusedVariables false
set_option linter.unusedSimpArgs false
namespace Go.Proofs.YtnlnclefedohkaaGreatDoor
open Go Go.RowKit Sy
def KeepG (w w' : World) (G : Nat) : Prop:=∀ (b : Nat) (o : Obj),G < b → w.heap[b]? = some o → (∀ cs,o ≠ .cells cs 43 (0,0)) → w'.heap[b]? = some o
theorem KeepG.calm {w w' : World} {G : Nat} (h : Calm w w') : KeepG w w' G:=fun b o _ ho _=>(h.block b (heap_lt ho)).trans ho
theorem KeepG.after {w w2 w3 : World} {G : Nat} (h : Calm w w2) (hk : KeepG w2 w3 G) : KeepG w w3 G:=fun b o hb ho hc=>hk b o hb ((h.block b (heap_lt ho)).trans ho) hc
theorem KeepG.trans {w w2 w3 : World} {G : Nat} (h : KeepG w w2 G) (hk : KeepG w2 w3 G) : KeepG w w3 G:=fun b o hb ho hc=>hk b o hb (h b o hb ho hc) hc
theorem KeepG.to {w w2 w3 : World} {G : Nat} (h : KeepG w w2 G) (hk : Calm w2 w3) : KeepG w w3 G:=h.trans (KeepG.calm hk)
theorem KeepG.from {w w2 : World} {G B : Nat} (h : KeepG w w2 G) (hs : w.heap.size ≤ w2.heap.size) (hB : G < B) : KeepsFrom B w w2:=⟨hs,fun k o hk ho hc=>h k o (by omega) ho (fun cs e=>by rw [e] at hc;cases hc)⟩
theorem OwnX.cellsBlock {α : Type} {enc : α → List Value} {K : Nat} {T : TypeId} {w0 w : World} {v : Value} {l : List α} (h : OwnX enc K T w0 w v l) {b : Nat} {o : Obj} (hb : some b = v.ownBlock) (ho : w.heap[b]? = some o) : ∃ cs,o = .cells cs T (0,0):=by
 rcases h.own.2 with ⟨rfl,_⟩ | ⟨g,cap,cur,rfl,hg,hh,_⟩
 ·cases hb
 ·obtain rfl : b = g:=Option.some.inj hb
  rw [hh] at ho
  exact ⟨cur,(Option.some.inj ho).symm⟩
def Free (G : Nat) (w : World) (b : Nat) : Prop:=b ≠ G ∧ ∀ v,w.cell? ⟨G,0,none⟩ = some v → some b ≠ v.ownBlock
def RowIn (G : Nat) (w : World) : Prop:=∀ v,w.cell? ⟨G,0,none⟩ = some v → ∀ g,v.ownBlock = some g → g < w.heap.size
structure KeepR (w w' : World) (G : Nat) : Prop where
 size : w.heap.size ≤ w'.heap.size
 free : ∀ (b : Nat) cs T x,w.heap[b]? = some (.cells cs T x) → Free G w b → w'.heap[b]? = some (.cells cs T x) ∧ Free G w' b
 row : RowIn G w → RowIn G w'
theorem KeepR.trans {w w2 w3 : World} {G : Nat} (h : KeepR w w2 G) (k : KeepR w2 w3 G) : KeepR w w3 G:=
 ⟨Nat.le_trans h.size k.size,fun b cs T x hb hf=>by
  obtain ⟨h1,h2⟩:=h.free b cs T x hb hf
  exact k.free b cs T x h1 h2,fun hr=>k.row (h.row hr)⟩
theorem cell_back {w w' : World} {G : Nat} (hG : w'.heap[G]? = w.heap[G]?) {v : Value} (h : w'.cell? ⟨G,0,none⟩ = some v) : w.cell? ⟨G,0,none⟩ = some v:=(World.cell?_of_block (a:=⟨G,0,none⟩) hG).symm.trans h
theorem KeepR.calm {w w' : World} {G : Nat} (hG : G < w.heap.size) (h : Calm w w') : KeepR w w' G:=
 ⟨h.size,fun b cs T x hb hf=>⟨(h.block b (heap_lt hb)).trans hb,hf.1,fun v hv=>hf.2 v (cell_back (h.block G hG) hv)⟩,fun hr v hv g hg=>Nat.lt_of_lt_of_le (hr v (cell_back (h.block G hG) hv) g hg) h.size⟩
theorem KeepR.set1 (w : World) (G : Nat) (u : Value) : KeepR w (w.setCell ⟨G,1,none⟩ u) G:=by
 have hc : (w.setCell ⟨G,1,none⟩ u).cell? ⟨G,0,none⟩ = w.cell? ⟨G,0,none⟩:=World.cell?_setCell_other _ _ _ _ (by simp)
 refine ⟨by simp,fun b cs T x hb hf=>⟨?_,hf.1,fun v hv=>hf.2 v (hc.symm.trans hv)⟩,fun hr v hv g hg=>?_⟩
 ·rw [Deep.blk_setCell_other _ _ _ _ (fun e=>hf.1 e)]
  exact hb
 ·have:=hr v (hc.symm.trans hv) g hg
  simpa using this
theorem addE_fullR (w0 w : World) (G : Nat) (A : Option Addr) (c : Nat) (bv : Bool) (LA RA HA : Option Addr) (nl lc nr rc hn hcap : Nat) (lr rr : Bool) (h0 : Calm w0 w) (hlo : w0.heap.size ≤ G) (hk : ∃ cs,w.heap[G]? = some (.cells cs 47 (0,0))) (k0 : w.cell? ⟨G,0,none⟩ = some (.slice A 32 c)) (k1 : w.cell? ⟨G,1,none⟩ = some (.bool bv)) :
  Calls Tryz.prog 55 #[.pointer (some ⟨G,0,none⟩),entV LA RA HA nl lc nr rc hn hcap lr rr] w fun e w'=>e = .returned (.tuple #[]) ∧ ColFull 47 w0 w' G ∧ FrB w w' (G + 1) ∧ KeepR w w' G:=by
 obtain ⟨w1,hw1⟩ : ∃ w1,w1 = w.alloc (.cells #[.slice LA nl lc,.bool lr,.slice RA nr rc,.bool rr,.slice HA hn hcap] 43):=⟨_,rfl⟩
 have hc1 : Calm w w1:=by rw [hw1];exact (Calm.refl _).alloc _
 have HD:=Lib.hid (colFull_of h0 hlo hk k0 k1 (Calm.refl w))
 have HW:=Lib.hid hw1
 have hlt : G < w.heap.size:=by
  obtain ⟨cs,hh⟩:=hk
  exact heap_lt hh
 have f1 : w.frozen? ⟨G,1,none⟩ = false:=by
  obtain ⟨cs,hh⟩:=hk
  exact frozen_of_row w G 1 cs _ hh
 clear hw1 hc1 h0 hlo hk
 go_enter Tryz.func55,Tryz.ntmps55
 go_wp2_with fail
 exact bodyPost_ret (v:=.tuple #[]) (results_none rfl _ _ _) rfl ⟨rfl,HD.out.1.to ((Calm.refl _).alloc _),HD.out.2.calm ((Calm.refl _).alloc _) (by simp),(KeepR.set1 w G _).trans (KeepR.calm (by simpa using hlt) ((Calm.refl _).alloc _))⟩
theorem addE_n (w0 wq w : World) (G : Nat) (es : List Ent) (z : NewE) (nl nr hn : Nat) (lr rr : Bool) (h : ColA w0 wq G es) (hq : Calm wq w) (hz : EntN w (G + 1) z) (hnl : z.e.left.parts.length = nl) (hnr : z.e.right.parts.length = nr) (hhn : z.e.hs.length = hn) (hlr : z.e.left.rest = lr) (hrr : z.e.right.rest = rr) :
  Calls Tryz.prog 55 #[.pointer (some ⟨G,0,none⟩),entV z.LA z.RA z.HA nl z.lc nr z.rc hn z.hc lr rr] w fun e w'=>e = .returned (.tuple #[]) ∧ ColA w0 w' G (es ++ [z.e]) ∧ FrB w w' wq.heap.size ∧ KeepG w w' G ∧ KeepR w w' G:=by
 have hGq:=h.lt
 rcases h with ⟨v,zs,h1,rfl,h3⟩ | ⟨h1,h2⟩
 ·have hw:=h1.calm hq
  rw [List.length_map] at h3
  by_cases h32 : zs.length < 32
  ·refine (addE_f w0 w G v zs z nl nr hn lr rr hw hz h32 hnl hnr hhn hlr hrr).mono ?_
   rintro e w' ⟨he,v',⟨hc,hf⟩,hfr⟩
   refine ⟨he,.inl ⟨v',_,hc,by rw [List.map_append];rfl,by rw [List.length_append,List.length_map];simp only [List.length_cons,List.length_nil];omega⟩,fun b hb hbs=>hf b hbs (by omega) (fun e=>?_),fun b o hb ho hcl=>?_,?_⟩
   ·have:=h1.own.blk_lt e
    omega
   ·rw [hf b (heap_lt ho) (by omega) (fun e=>by obtain ⟨cs,hcs⟩:=hw.own.cellsBlock e ho;exact hcl cs hcs)]
    exact ho
   ·have hcw:=hw.c0
    have hsz : w.heap.size ≤ w'.heap.size:=by
     by_cases hg : w.heap.size = G + 1
     ·have:=hc.lt
      omega
     ·have hgl:=hw.lt
      have hlast:=hf (w.heap.size - 1) (by omega) (by omega)
      by_cases hown : some (w.heap.size - 1) = v.ownBlock
      ·rcases hfr with hfr | ⟨g,hfr,hg2⟩
       ·have:=hc.own.blk_lt (hown.trans hfr.symm)
        omega
       ·have:=hc.own.blk_lt hfr.symm
        omega
      ·have:=hlast hown
       rw [Array.getElem?_eq_getElem (show w.heap.size - 1 < w.heap.size by omega)] at this
       have:=heap_lt this
       omega
    refine ⟨hsz,fun b cs T x hb hfree=>⟨(hf b (heap_lt hb) hfree.1 (hfree.2 v hcw)).trans hb,hfree.1,fun u hu=>?_⟩,fun _ u hu g hg=>?_⟩
    ·obtain rfl : v' = u:=Option.some.inj (hc.c0.symm.trans hu)
     rcases hfr with hfr | ⟨g,hfr,hg⟩
     ·rw [hfr]
      exact hfree.2 v hcw
     ·rw [hfr]
      intro e
      have:=heap_lt hb
      obtain rfl:=Option.some.inj e
      omega
    ·obtain rfl : v' = u:=Option.some.inj (hc.c0.symm.trans hu)
     exact hc.own.blk_lt hg.symm
  ·have h32' : zs.length = 32:=by omega
   obtain ⟨A,c,rfl,_,_,_⟩:=hw.shape
   rw [h32'] at hw
   refine (addE_fullR w0 w G A c false z.LA z.RA z.HA nl z.lc nr z.rc hn z.hc lr rr hw.own.calm hw.lo hw.kind hw.c0 hw.c1).mono ?_
   rintro e w' ⟨he,hc,hf,hkr⟩
   exact ⟨he,.inr ⟨by rw [List.length_append,List.length_map,h32'];simp,hc⟩,fun b hb hbs=>hf b (by omega) hbs,fun b o hb ho _=>(hf b hb (heap_lt ho)).trans ho,hkr⟩
 ·have hw:=h2.to hq
  obtain ⟨A,c,k0⟩:=hw.c0
  refine (addE_fullR w0 w G A c true z.LA z.RA z.HA nl z.lc nr z.rc hn z.hc lr rr hw.calm hw.lo hw.kind k0 hw.c1).mono ?_
  rintro e w' ⟨he,hc,hf,hkr⟩
  exact ⟨he,.inr ⟨by rw [List.length_append];omega,hc⟩,fun b hb hbs=>hf b (by omega) hbs,fun b o hb ho _=>(hf b hb (heap_lt ho)).trans ho,hkr⟩
set_option maxHeartbeats 8000000 in
theorem put_n (w0 wq w : World) (G : Nat) (es : List Ent) (n : Rule) (ps : List Pat) (a : Pl) (ex : Bool) (nl nr N pc : Nat) (lr rr : Bool) (PA : Option Addr) (h : ColA w0 wq G es) (hq : Calm wq w) (hL : PatA w a.AL a.cl n.left) (hR : PatA w a.AR a.cr n.right) (hnl : n.left.parts.length = nl) (hnr : n.right.parts.length = nr) (hlr : n.left.rest = lr) (hrr : n.right.rest = rr)
  (KRd : ∀ W,Calm w W → Calls Tryz.prog 35 #[.agg #[.slice a.AL nl a.cl,.bool lr],.slice PA N pc] W fun e w'=>RdEnd n.left ps W.heap.size e w' ∧ Calm W w') :
  Calls Tryz.prog 25 #[.pointer (some ⟨G,0,none⟩),.agg #[.bool ex,.slice a.AL nl a.cl,.bool lr,.slice a.AR nr a.cr,.bool rr],.slice PA N pc] w fun e w'=>(PutEnd w0 w' G es n ps e ∧ FrB w w' wq.heap.size) ∧ KeepG w w' G ∧ KeepR w w' G:=by
 obtain ⟨w1,hw1⟩ : ∃ w1,w1 = w.alloc (.cells #[.bool ex,.slice a.AL nl a.cl,.bool lr,.slice a.AR nr a.cr,.bool rr] 52):=⟨_,rfl⟩
 obtain ⟨B,hB⟩ : ∃ B,w.heap.size = B:=⟨_,rfl⟩
 have hc1 : Calm w w1:=by rw [hw1];exact (Calm.refl w).alloc _
 have hb1 : FiveB w1 B (.bool ex) (.slice a.AL nl a.cl) (.bool lr) (.slice a.AR nr a.cr) (.bool rr):=by
  rw [hw1,← hB]
  exact FiveB.new w _ _ _ _ _ _
 have hBw : w1.heap.size = B + 1:=by rw [hw1,← hB];simp
 obtain ⟨gm,hgm⟩ : ∃ gm,(redL n.left ps).length = gm:=⟨_,rfl⟩
 have KR0:=KRd w1 hc1
 unfold RdEnd at KR0
 rw [hgm,hnl,hlr,hBw] at KR0
 have HH:=Lib.hid h
 have HQ0:=Lib.hid hq
 have HGl : Hid (G < wq.heap.size):=h.lt
 have hGq:=h.lt
 have HW:=Lib.hid hw1
 have HC:=Lib.hid hc1
 have HB:=Lib.hid hb1
 have HBs:=Lib.hid hB
 by_cases h64 : 64 < gm
 ·simp only [if_pos h64] at KR0
  have HP : Hid (putH n ps = none):=putH_far (by rw [hgm];exact h64)
  have HK:=Lib.hid KR0
  clear h hq hL hR hnl hnr hlr hrr KRd hw1 hB hc1 hb1 hBw hgm KR0 h64
  go_enter Tryz.func25,Tryz.ntmps25
  go_wp2_with fail
  rw [← HW.out]
  refine HK.out.mono ?_
  rintro e w3 ⟨rfl,hc3⟩
  have HC3 : Hid (Calm w w3):=HC.out.trans hc3
  clear hc3
  go_wp2_with fail
  go_ret
  refine ⟨⟨?_,fun b hb hbs=>(HC3.out.alloc _).block b hbs⟩,KeepG.calm (HC3.out.alloc _),KeepR.calm (Nat.lt_of_lt_of_le HGl.out HQ0.out.size) (HC3.out.alloc _)⟩
  unfold PutEnd
  rw [HP.out]
  exact ⟨rfl,HH.out.to (HQ0.out.trans (HC3.out.alloc _))⟩
 ·simp only [if_neg h64] at KR0
  obtain ⟨vz,hvz⟩ : ∃ vz,(leastLen n.left (redL n.left ps) == 0) = vz:=⟨_,rfl⟩
  simp only [hvz] at KR0
  cases vz with
  |true=>
   have HP : Hid (putH n ps = some none):=putH_void (by rw [hgm];exact h64) (by simpa using hvz)
   have HK:=Lib.hid KR0
   clear h hq hL hR hnl hnr hlr hrr KRd hw1 hB hc1 hb1 hBw hgm KR0 h64 hvz
   go_enter Tryz.func25,Tryz.ntmps25
   go_wp2_with fail
   rw [← HW.out]
   refine HK.out.mono ?_
   rintro e w3 ⟨⟨A2,c2,HA2,hc2,rfl,hS,hQ⟩,hc3⟩
   have HC3 : Hid (Calm w w3):=HC.out.trans hc3
   clear hc3 hS hQ
   go_wp2_with fail
   go_ret
   refine ⟨⟨?_,fun b hb hbs=>(HC3.out.alloc _).block b hbs⟩,KeepG.calm (HC3.out.alloc _),KeepR.calm (Nat.lt_of_lt_of_le HGl.out HQ0.out.size) (HC3.out.alloc _)⟩
   unfold PutEnd
   rw [HP.out]
   exact ⟨rfl,HH.out.to (HQ0.out.trans (HC3.out.alloc _))⟩
  |false=>
   have HP : Hid (putH n ps = some (some ⟨n.left,n.right,redL n.left ps⟩)):=putH_one (by rw [hgm];exact h64) (by simpa using hvz)
   have HK:=Lib.hid KR0
   have HN:=Lib.hid (And.intro hnl (And.intro hnr (And.intro hlr (And.intro hrr hgm))))
   have HPs:=Lib.hid (And.intro hL hR)
   have KCp : Hid (∀ W,Calm w1 W → Calls Tryz.prog 56 #[.agg #[.slice a.AR nr a.cr,.bool rr]] W fun e w'=>(∃ A c,e = .returned (.agg #[.slice A nr c,.bool rr]) ∧ NewS w' W.heap.size A c n.right.parts) ∧ Calm W w'):=fun W hW=>by
    have:=copy_c n.right a.AR a.cr W (hR.r.calm (hc1.trans hW)).toU
    unfold CopyEnd at this
    rw [hnr,hrr] at this
    exact this
   have HBw:=Lib.hid hBw
   have HGB : Hid (G < B):=by
    show G < B
    rw [← hB]
    exact Nat.lt_of_lt_of_le h.lt hq.size
   have HH64:=Lib.hid h64
   clear h hq hL hR hnl hnr hlr hrr KRd hw1 hB hc1 hb1 hBw hgm KR0 h64 hvz
   go_enter Tryz.func25,Tryz.ntmps25
   go_wp2_with fail
   rw [← HW.out,HBs.out]
   refine HK.out.mono ?_
   rintro e w3 ⟨⟨A2,c2,HA2,hc2,rfl,hS,hQ⟩,hc3⟩
   obtain ⟨w4,hw4⟩ : ∃ w4,w4 = w3.alloc (.cells #[.slice A2 nl c2,.bool lr,.slice HA2 gm hc2] 68):=⟨_,rfl⟩
   obtain ⟨D,hD⟩ : ∃ D,w3.heap.size = D:=⟨_,rfl⟩
   have hc4 : Calm w3 w4:=by
    show Below _ _ _
    rw [hw4]
    exact (Calm.refl _).alloc _
   have hg4 : RgB w4 D (.slice A2 nl c2) (.bool lr) (.slice HA2 gm hc2):=by rw [hw4,← hD];exact RgB.new w3 _ _ _
   have HS4 : Hid (NewS w4 (B + 1) A2 c2 n.left.parts):=hS.calm hc4
   have HQ4 : Hid (PatsN w4 (B + 1) HA2 hc2 (redL n.left ps)):=hQ.calm hc4
   have HC14 : Hid (Calm w1 w4):=Calm.trans hc3 hc4
   have HBD : Hid (B < D):=by
    show B < D
    have h1:=hc3.size
    have h2:=HBw.out
    omega
   have HB4 : Hid (FiveB w4 B (.bool ex) (.slice a.AL nl a.cl) (.bool lr) (.slice a.AR nr a.cr) (.bool rr)):=HB.out.calm HC14.out
   have HG4:=Lib.hid hg4
   have HC04 : Hid (Calm w w4):=HC.out.trans HC14.out
   have HW4:=Lib.hid hw4
   have HDs:=Lib.hid hD
   have HBsz : Hid (B + 1 ≤ w4.heap.size):=by
    show B + 1 ≤ w4.heap.size
    have h1:=HC14.out.size
    have h2:=HBw.out
    omega
   clear hS hQ hc3 hc4 hg4 hw4 hD
   go_wp2_with fail
   rw [← HW4.out,HDs.out]
   have HK5 : Hid (∀ W : World,Calm w4 W → W.cell? ⟨D,0,none⟩ = some (.slice A2 nl c2) ∧ W.cell? ⟨D,1,none⟩ = some (.bool lr) ∧ W.cell? ⟨D,2,none⟩ = some (.slice HA2 gm hc2) ∧ W.cell? ⟨B,3,none⟩ = some (.slice a.AR nr a.cr) ∧ W.cell? ⟨B,4,none⟩ = some (.bool rr)):=fun W hW=>
    ⟨(HG4.out.calm hW).c0,(HG4.out.calm hW).c1,(HG4.out.calm hW).c2,(HB4.out.calm hW).c3,(HB4.out.calm hW).c4⟩
   have HFr : Hid (∀ W W' : World,Calm w4 W → FrB W W' wq.heap.size → W'.cell? ⟨D,0,none⟩ = some (.slice A2 nl c2) ∧ W'.cell? ⟨D,1,none⟩ = some (.bool lr) ∧ W'.cell? ⟨D,2,none⟩ = some (.slice HA2 gm hc2) ∧ W'.cell? ⟨B,3,none⟩ = some (.slice a.AR nr a.cr) ∧ W'.cell? ⟨B,4,none⟩ = some (.bool rr)):=fun W W' hW hf=>by
    have hd:=(HG4.out.calm hW)
    have hb:=(HB4.out.calm hW)
    have hbd:=HBD.out
    have hbs:=HBs.out
    have hqs:=HQ0.out.size
    have e1:=hf D (by omega) hd.lt
    have e2:=hf B (by omega) hb.lt
    exact ⟨(World.cell?_of_block (a:=⟨D,0,none⟩) e1).trans hd.c0,(World.cell?_of_block (a:=⟨D,1,none⟩) e1).trans hd.c1,(World.cell?_of_block (a:=⟨D,2,none⟩) e1).trans hd.c2,(World.cell?_of_block (a:=⟨B,3,none⟩) e2).trans hb.c3,(World.cell?_of_block (a:=⟨B,4,none⟩) e2).trans hb.c4⟩
   have KA : Hid (∀ W A9 c9,Calm w4 W → NewS W (B + 1) A9 c9 n.right.parts → Calls Tryz.prog 55 #[.pointer (some ⟨G,0,none⟩),.agg #[.slice A2 nl c2,.bool lr,.slice A9 nr c9,.bool rr,.slice HA2 gm hc2]] W fun e w'=>e = .returned (.tuple #[]) ∧ ColA w0 w' G (es ++ [⟨n.left,n.right,redL n.left ps⟩]) ∧ FrB W w' wq.heap.size ∧ KeepG W w' G ∧ KeepR W w' G):=fun W A9 c9 hW h9=>by
    have hgb:=HGB.out
    refine addE_n w0 wq W G es ⟨A2,c2,A9,c9,HA2,hc2,⟨n.left,n.right,redL n.left ps⟩⟩ nl nr gm lr rr HH.out (HQ0.out.trans (HC04.out.trans hW)) ⟨⟨(HS4.out.calm hW).mono (by omega),HPs.out.1.r.len,HPs.out.1.r.each⟩,⟨h9.mono (by omega),HPs.out.2.r.len,HPs.out.2.r.each⟩,(HQ4.out.calm hW).mono (by omega),?_⟩ HN.out.1 HN.out.2.1 HN.out.2.2.2.2 HN.out.2.2.1 HN.out.2.2.2.1
    have h1:=HH64.out
    have h2:=HN.out.2.2.2.2
    show (redL n.left ps).length ≤ 16384
    omega
   go_region_held3 (fun W=>W.cell? ⟨D,0,none⟩ = some (.slice A2 nl c2) ∧ W.cell? ⟨D,1,none⟩ = some (.bool lr) ∧ W.cell? ⟨D,2,none⟩ = some (.slice HA2 gm hc2) ∧ W.cell? ⟨B,3,none⟩ = some (.slice a.AR nr a.cr) ∧ W.cell? ⟨B,4,none⟩ = some (.bool rr))
    (first
     |exact HK5.out _ (Calm.refl _)
     |exact HK5.out _ (Below.drew (Calm.refl _))
     |exact HK5.out _ hc48
     |exact HK5.out _ (Below.drew hc48)
     |exact HFr.out _ _ hc48 hf9
     |exact HFr.out _ _ (Below.drew hc48) hf9
     |go_keep)
    (first
     |(go_at_call 56;first
       |(refine (KCp.out _ (HC14.out.trans (Calm.refl _))).mono ?_;rintro e w8 ⟨⟨A9,c9,rfl,hN9⟩,hc8⟩;have hc48 : Calm w4 w8:=hc8;have hN9' : NewS w8 (B + 1) A9 c9 n.right.parts:=hN9.mono HBsz.out)
       |(refine (KCp.out _ (HC14.out.trans (Below.drew (Calm.refl _)))).mono ?_;rintro e w8 ⟨⟨A9,c9,rfl,hN9⟩,hc8⟩;have hc48 : Calm w4 w8:=(Below.drew (Calm.refl _)).trans hc8;have hN9' : NewS w8 (B + 1) A9 c9 n.right.parts:=hN9.mono HBsz.out))
     |(go_at_call 55;refine (KA.out _ _ _ hc48 hN9').mono ?_;rintro e w9 ⟨rfl,hCol9,hf9,hk9,hr9⟩))
   all_goals
    have HCl:=Lib.hid hCol9
    have HFin : Hid (FrB w w9 wq.heap.size):=fun b hb hbs=>by
     have h1:=HC04.out
     first
      |exact (hf9 b hb (Nat.lt_of_lt_of_le hbs (h1.trans hc48).size)).trans ((h1.trans hc48).block b hbs)
      |exact (hf9 b hb (Nat.lt_of_lt_of_le hbs (h1.trans (Below.drew hc48)).size)).trans ((h1.trans (Below.drew hc48)).block b hbs)
    have HKp : Hid (KeepG w w9 G ∧ KeepR w w9 G):=by
     have h1:=HC04.out
     have hg:=Nat.lt_of_lt_of_le HGl.out HQ0.out.size
     first
      |exact ⟨KeepG.after (h1.trans hc48) hk9,(KeepR.calm hg (h1.trans hc48)).trans hr9⟩
      |exact ⟨KeepG.after (h1.trans (Below.drew hc48)) hk9,(KeepR.calm hg (h1.trans (Below.drew hc48))).trans hr9⟩
    go_wp2_with fail
    go_ret
    refine ⟨⟨?_,HFin.out⟩,HKp.out⟩
    unfold PutEnd
    rw [HP.out]
    exact ⟨rfl,HCl.out⟩
end Go.Proofs.YtnlnclefedohkaaGreatDoor
set_option linter.unusedVariables false
set_option linter.unusedSimpArgs false
namespace Go.Proofs.YtnlnclefedohkaaGreatDoor
open Go Go.RowKit Go.Shelf Sy
attribute [local go_sem] Oper.semAt_some
def entZ (z : NewE) : Value:=entV z.LA z.RA z.HA z.e.left.parts.length z.lc z.e.right.parts.length z.rc z.e.hs.length z.hc z.e.left.rest z.e.right.rest
def pz (za zb : List NewE) : List (NewE × NewE):=za.flatMap fun x=>zb.map fun y=>(x,y)
theorem pz_len (za zb : List NewE) : (pz za zb).length = za.length * zb.length:=by
 unfold pz
 induction za with
 |nil=>simp
 |cons x za ih=>rw [List.flatMap_cons,List.length_append,ih,List.length_map,List.length_cons,Nat.succ_mul,Nat.add_comm]
theorem pz_take {za zb : List NewE} {k : Nat} {x : NewE} (h : za[k]? = some x) : pz (za.take (k + 1)) zb = pz (za.take k) zb ++ zb.map fun y=>(x,y):=by
 unfold pz
 rw [List.take_add_one,h,List.flatMap_append]
 simp
theorem pz_part (za zb : List NewE) (k : Nat) : pz (za.take k) zb <+: pz za zb:=by
 refine ⟨pz (za.drop k) zb,?_⟩
 unfold pz
 rw [← List.flatMap_append,List.take_append_drop]
theorem pz_part2 {za zb : List NewE} {k j : Nat} {x : NewE} (h : za[k]? = some x) : pz (za.take k) zb ++ (zb.take j).map (fun y=>(x,y)) <+: pz za zb:=by
 refine List.IsPrefix.trans ?_ (pz_part za zb (k + 1))
 rw [pz_take h]
 refine ⟨(zb.drop j).map fun y=>(x,y),?_⟩
 rw [List.append_assoc,← List.map_append,List.take_append_drop]
theorem pz_lt {za zb : List NewE} {k j : Nat} {x y : NewE} (h : za[k]? = some x) (hj : zb[j]? = some y) : (pz (za.take k) zb ++ (zb.take j).map (fun y=>(x,y))).length < (pz za zb).length:=by
 have h1:=(pz_part2 (za:=za) (zb:=zb) (k:=k) (j:=j + 1) h).length_le
 rw [List.length_append,List.length_map,List.length_take] at h1 ⊢
 have h2:=(List.getElem?_eq_some_iff.1 hj).1
 omega
theorem pz_snoc {za zb : List NewE} {k j : Nat} {x y : NewE} (hj : zb[j]? = some y) : (pz (za.take k) zb ++ (zb.take j).map (fun y=>(x,y))) ++ [(x,y)] = pz (za.take k) zb ++ (zb.take (j + 1)).map (fun y=>(x,y)):=by
 rw [List.append_assoc,List.take_add_one,hj,List.map_append]
 rfl
def PairZ (za zb : List NewE) : Type:={p : NewE × NewE // p.1 ∈ za ∧ p.2 ∈ zb}
structure KpP (w0 : World) (G : Nat) (W W' : World) : Prop where
 below : Below w0.heap.size W W'
 keep : KeepR W W' G
theorem KpP.trans {w0 : World} {G : Nat} {A B C : World} (h : KpP w0 G A B) (k : KpP w0 G B C) : KpP w0 G A C:=⟨h.below.trans k.below,h.keep.trans k.keep⟩
theorem free_new {G : Nat} {W : World} (hr : RowIn G W) (hG : G < W.heap.size) (o : Obj) : Free G (W.alloc o) W.heap.size:=
 ⟨by omega,fun v hv e=>by
  have h:=hr v (cell_back (Below.heap_alloc W o G hG) hv) W.heap.size e.symm
  omega⟩
structure Stay (G : Nat) (W : World) (b : Nat) (cs : Array Value) (T : TypeId) : Prop where
 is : W.heap[b]? = some (.cells cs T (0,0))
 free : Free G W b
theorem Stay.keep {G b : Nat} {W W' : World} {cs : Array Value} {T : TypeId} (h : Stay G W b cs T) (k : KeepR W W' G) : Stay G W' b cs T:=by
 obtain ⟨h1,h2⟩:=k.free b cs T _ h.is h.free
 exact ⟨h1,h2⟩
theorem Stay.lt {G b : Nat} {W : World} {cs : Array Value} {T : TypeId} (h : Stay G W b cs T) : b < W.heap.size:=heap_lt h.is
theorem Stay.cell {G b i : Nat} {W : World} {cs : Array Value} {T : TypeId} (h : Stay G W b cs T) {v : Value} (hv : cs[i]? = some v) : W.cell? ⟨b,i,none⟩ = some v:=by
 simp [World.cell?,show W.heap[b]? = _ from h.is,hv]
theorem Stay.five {G b : Nat} {W : World} {v0 v1 v2 v3 v4 : Value} {T : TypeId} (h : Stay G W b #[v0,v1,v2,v3,v4] T) : FiveB W b v0 v1 v2 v3 v4:=
 ⟨h.lt,h.cell rfl,h.cell rfl,h.cell rfl,h.cell rfl,h.cell rfl,fun o=>by simp [World.frozen?,show W.heap[b]? = _ from h.is]⟩
theorem Stay.new {G : Nat} {W : World} (hr : RowIn G W) (hG : G < W.heap.size) (cs : Array Value) (T : TypeId) : Stay G (W.alloc (.cells cs T)) W.heap.size cs T:=⟨World.alloc_heap_new W _,free_new hr hG _⟩
theorem readE {w : World} {A : Option Addr} {za : List NewE} (h : ReadX encE 5 w A za) {k : Nat} (hk : k < za.length) : ∃ (b o : Nat) (z : NewE),A = some ⟨b,o,none⟩ ∧ b < w.heap.size ∧ za[k]? = some z ∧
  w.cell? ⟨b,o + k * 5,none⟩ = some (.slice z.LA z.e.left.parts.length z.lc) ∧ w.cell? ⟨b,o + k * 5 + 1,none⟩ = some (.bool z.e.left.rest) ∧ w.cell? ⟨b,o + k * 5 + 2,none⟩ = some (.slice z.RA z.e.right.parts.length z.rc) ∧ w.cell? ⟨b,o + k * 5 + 3,none⟩ = some (.bool z.e.right.rest) ∧ w.cell? ⟨b,o + k * 5 + 4,none⟩ = some (.slice z.HA z.e.hs.length z.hc):=by
 obtain ⟨b,o,hA,hb,hc⟩:=h (fun e=>by rw [e] at hk;simp at hk)
 have hz:=List.getElem?_eq_getElem hk
 exact ⟨b,o,za[k],hA,hb,hz,hc k _ hz 0 _ rfl,hc k _ hz 1 _ rfl,hc k _ hz 2 _ rfl,hc k _ hz 3 _ rfl,hc k _ hz 4 _ rfl⟩
theorem entZ_eq {z : NewE} {nl nr nh : Nat} {rl rr : Bool} (h1 : z.e.left.parts.length = nl) (h2 : z.e.right.parts.length = nr) (h3 : z.e.hs.length = nh) (h4 : z.e.left.rest = rl) (h5 : z.e.right.rest = rr) : entZ z = .agg #[.slice z.LA nl z.lc,.bool rl,.slice z.RA nr z.rc,.bool rr,.slice z.HA nh z.hc]:=by
 unfold entZ entV
 rw [h1,h2,h3,h4,h5]
set_option maxRecDepth 100000 in
set_option maxHeartbeats 8000000 in
theorem pairs1_in (n : Nat) (hn : 1 ≤ n) (w0 : World) (l B1 B2 G : Nat) (A A2 : Option Addr) (na ca nb cb : Nat) (za zb : List NewE) (hA : ReadX encE 5 w0 A za) (hA2 : ReadX encE 5 w0 A2 zb) (hna : za.length = na) (hnb : zb.length = nb) (hla : na ≤ 1048576) (hlb : nb ≤ 1048576)
  (J Jx : List (PairZ za zb) → World → Prop)
  (hJ : ∀ pre W o,J pre W → J pre (W.alloc o))
  (hY : ∀ pre x W,J pre W → pre.length < (pz za zb).length → YieldAt Fence.wide (n - 1) Tryz.prog l #[entZ x.1.1,entZ x.1.2] W fun e W'=>
   (e = .returned (.bool true) ∧ J (pre ++ [x]) W' ∧ KpP w0 G W W') ∨ (e = .returned (.bool false) ∧ Jx (pre ++ [x]) W'))
  (W : World) (hc0 : Calm w0 W) (hB1 : W.cell? ⟨B1,0,none⟩ = some (.slice A na ca)) (hB2 : Stay G W B2 #[.slice A2 nb cb] 22) (hr : RowIn G W) (hG : G < W.heap.size) (h0 : J [] W) :
  CallsIn Fence.wide n Tryz.prog 50 #[.func (.yield l) #[] #[],.pointer (some ⟨B1,0,none⟩),.pointer (some ⟨B2,0,none⟩)] W fun e W'=>(∃ v,e = .returned v) ∧
   ((∃ ys : List (PairZ za zb),ys.map (·.1) = pz za zb ∧ J ys W') ∨ (∃ pre : List (PairZ za zb),pre.map (·.1) <+: pz za zb ∧ Jx pre W')):=by
 have HA:=Lib.hid (And.intro hA (And.intro hA2 (And.intro hna hnb)))
 have HS0:=Lib.hid (And.intro hB2 (And.intro hr hG))
 clear hA hA2 hna hnb hB2 hr hG
 refine callsIn_of_wp Tryz.func50 rfl trivial ?_ rfl
 simp only [Tryz.ntmps50,List.size_toArray,List.length_cons,List.length_nil,Nat.reduceAdd,Nat.reduceSub,Array.replicate_succ,Array.replicate_zero,List.push_toArray,List.append_toArray,List.nil_append,List.cons_append]
 gi_wp2
 gi_loopw [10] (fun i wr=>∃ (k : Nat) (pre : List (PairZ za zb)),k ≤ na ∧ i = .int .i64 k ∧ pre.map (·.1) = pz (za.take k) zb ∧ J pre wr ∧ Hid (Calm w0 wr ∧ Stay G wr B2 #[.slice A2 nb cb] 22 ∧ RowIn G wr ∧ G < wr.heap.size))
  (fun i _=>na - (intOf i).toNat)
 case atStart=>exact ⟨0,[],Nat.zero_le _,rfl,rfl,h0,hc0,HS0.out⟩
 case round=>
  obtain ⟨k,pre,hk,rfl,hpre,hJs,HC⟩:=hrel
  by_cases hlt : k < na
  ·obtain ⟨b,o,x,rfl,hb,hx,c0,c1,c2,c3,c4⟩:=readE (HA.out.1.calm HC.out.1) (k:=k) (by rw [HA.out.2.2.1];exact hlt)
   have HX:=Lib.hid hx
   clear hx
   obtain ⟨nl,hnl⟩ : ∃ nl,x.e.left.parts.length = nl:=⟨_,rfl⟩
   obtain ⟨nr,hnr⟩ : ∃ nr,x.e.right.parts.length = nr:=⟨_,rfl⟩
   obtain ⟨nh,hnh⟩ : ∃ nh,x.e.hs.length = nh:=⟨_,rfl⟩
   obtain ⟨rl,hrl⟩ : ∃ rl,x.e.left.rest = rl:=⟨_,rfl⟩
   obtain ⟨rr,hrr⟩ : ∃ rr,x.e.right.rest = rr:=⟨_,rfl⟩
   have HV : Hid (entZ x = .agg #[.slice x.LA nl x.lc,.bool rl,.slice x.RA nr x.rc,.bool rr,.slice x.HA nh x.hc]):=entZ_eq hnl hnr hnh hrl hrr
   rw [hnl] at c0
   rw [hrl] at c1
   rw [hnr] at c2
   rw [hrr] at c3
   rw [hnh] at c4
   clear hnl hnr hnh hrl hrr
   obtain ⟨wx,hwx⟩ : ∃ wx,wx = wr.alloc (.cells #[.slice x.LA nl x.lc,.bool rl,.slice x.RA nr x.rc,.bool rr,.slice x.HA nh x.hc] 43):=⟨_,rfl⟩
   obtain ⟨B,hB⟩ : ∃ B,wr.heap.size = B:=⟨_,rfl⟩
   have hJx : J pre wx:=by rw [hwx];exact hJ _ _ _ hJs
   have hcx : Calm wr wx:=by
    show Below _ _ _
    rw [hwx]
    exact (Calm.refl _).alloc _
   have hkx : KeepR wr wx G:=KeepR.calm HC.out.2.2.2 hcx
   have hsx : Stay G wx B #[.slice x.LA nl x.lc,.bool rl,.slice x.RA nr x.rc,.bool rr,.slice x.HA nh x.hc] 43:=by rw [hwx,← hB];exact Stay.new HC.out.2.2.1 HC.out.2.2.2 _ _
   have HWx:=Lib.hid hwx
   have HBs:=Lib.hid hB
   have HCx : Hid (Calm w0 wx ∧ Stay G wx B2 #[.slice A2 nb cb] 22 ∧ RowIn G wx ∧ G < wx.heap.size):=⟨HC.out.1.trans hcx,HC.out.2.1.keep hkx,hkx.row HC.out.2.2.1,Nat.lt_of_lt_of_le HC.out.2.2.2 hcx.size⟩
   have HSx:=Lib.hid hsx
   have hb2x : wx.cell? ⟨B2,0,none⟩ = some (.slice A2 nb cb):=HCx.out.2.1.cell rfl
   clear hcx hkx hsx hwx hB
   gi_upto_region 3 with (fail)
   rw [← HWx.out,HBs.out]
   clear c0 c1 c2 c3 c4
   gi_wp2
   gi_loopw [16] (fun i wy=>∃ (m : Nat) (pre2 : List (PairZ za zb)),m ≤ nb ∧ i = .int .i64 m ∧ Hid (pre2.map (·.1) = pz (za.take k) zb ++ (zb.take m).map fun y=>(x,y)) ∧ J pre2 wy ∧ Hid ((Calm w0 wy ∧ Stay G wy B2 #[.slice A2 nb cb] 22 ∧ RowIn G wy ∧ G < wy.heap.size) ∧ Stay G wy B #[.slice x.LA nl x.lc,.bool rl,.slice x.RA nr x.rc,.bool rr,.slice x.HA nh x.hc] 43))
    (fun i _=>nb - (intOf i).toNat)
   case atStart=>exact ⟨0,pre,Nat.zero_le _,rfl,by show _ = _;rw [hpre];simp,hJx,HCx.out,HSx.out⟩
   case round=>
    obtain ⟨m,pre2,hm,rfl,HP,hJ2,HD⟩:=hrel
    by_cases hlt2 : m < nb
    ·obtain ⟨b9,o9,y,hA2e,hb9,hy9,d0,d1,d2,d3,d4⟩:=readE (HA.out.2.1.calm HD.out.1.1) (k:=m) (by rw [HA.out.2.2.2];exact hlt2)
     subst hA2e
     have HY9:=Lib.hid hy9
     clear hy9
     obtain ⟨ml,hml⟩ : ∃ ml,y.e.left.parts.length = ml:=⟨_,rfl⟩
     obtain ⟨mr,hmr⟩ : ∃ mr,y.e.right.parts.length = mr:=⟨_,rfl⟩
     obtain ⟨mh,hmh⟩ : ∃ mh,y.e.hs.length = mh:=⟨_,rfl⟩
     obtain ⟨sl,hsl⟩ : ∃ sl,y.e.left.rest = sl:=⟨_,rfl⟩
     obtain ⟨sr,hsr⟩ : ∃ sr,y.e.right.rest = sr:=⟨_,rfl⟩
     have HV2 : Hid (entZ y = .agg #[.slice y.LA ml y.lc,.bool sl,.slice y.RA mr y.rc,.bool sr,.slice y.HA mh y.hc]):=entZ_eq hml hmr hmh hsl hsr
     rw [hml] at d0
     rw [hsl] at d1
     rw [hmr] at d2
     rw [hsr] at d3
     rw [hmh] at d4
     clear hml hmr hmh hsl hsr
     obtain ⟨wz,hwz⟩ : ∃ wz,wz = wr.alloc (.cells #[.slice y.LA ml y.lc,.bool sl,.slice y.RA mr y.rc,.bool sr,.slice y.HA mh y.hc] 43):=⟨_,rfl⟩
     obtain ⟨B9,hB9⟩ : ∃ B9,wr.heap.size = B9:=⟨_,rfl⟩
     have hJz : J pre2 wz:=by rw [hwz];exact hJ _ _ _ hJ2
     have hcz : Calm wr wz:=by
      show Below _ _ _
      rw [hwz]
      exact (Calm.refl _).alloc _
     have hkz : KeepR wr wz G:=KeepR.calm HD.out.1.2.2.2 hcz
     have hsz : Stay G wz B9 #[.slice y.LA ml y.lc,.bool sl,.slice y.RA mr y.rc,.bool sr,.slice y.HA mh y.hc] 43:=by rw [hwz,← hB9];exact Stay.new HD.out.1.2.2.1 HD.out.1.2.2.2 _ _
     have HDz : Hid ((Calm w0 wz ∧ Stay G wz B2 #[.slice (some ⟨b9,o9,none⟩) nb cb] 22 ∧ RowIn G wz ∧ G < wz.heap.size) ∧ Stay G wz B #[.slice x.LA nl x.lc,.bool rl,.slice x.RA nr x.rc,.bool rr,.slice x.HA nh x.hc] 43):=
      ⟨⟨HD.out.1.1.trans hcz,HD.out.1.2.1.keep hkz,hkz.row HD.out.1.2.2.1,Nat.lt_of_lt_of_le HD.out.1.2.2.2 hcz.size⟩,HD.out.2.keep hkz⟩
     have hmem : x ∈ za ∧ y ∈ zb:=⟨List.mem_of_getElem? HX.out,List.mem_of_getElem? HY9.out⟩
     have hlen : pre2.length < (pz za zb).length:=by
      have:=pz_lt HX.out HY9.out
      rw [← HP.out,List.length_map] at this
      exact this
     obtain ⟨fn,tmps,assign,body,hy,hR⟩:=hY pre2 ⟨(x,y),hmem⟩ wz hJz hlen
     dsimp only at hy
     rw [HV.out,HV2.out] at hy
     have HWz:=Lib.hid hwz
     have HBz:=Lib.hid hB9
     have f0:=HDz.out.2.five
     have g0:=hsz.five
     have c0:=f0.c0
     have c1:=f0.c1
     have c2:=f0.c2
     have c3:=f0.c3
     have c4:=f0.c4
     have e0:=g0.c0
     have e1:=g0.c1
     have e2:=g0.c2
     have e3:=g0.c3
     have e4:=g0.c4
     clear hcz hkz hsz hwz hB9 f0 g0
     gi_upto_region 6 with (fail)
     rw [← HWz.out,HBz.out]
     clear d0 d1 d2 d3 d4
     gi_wp2
     refine hR.mono ?_
     rintro e W3 (⟨rfl,hJ3,hk3⟩ | ⟨rfl,hJx3⟩)
     ·gi_wp2
      go_roundw
      case rel=>exact ⟨m + 1,pre2 ++ [⟨(x,y),hmem⟩],by omega,by go_num,by show _ = _;rw [List.map_append,HP.out];exact pz_snoc HY9.out,hJ3,⟨Below.trans HDz.out.1.1 hk3.below,HDz.out.1.2.1.keep hk3.keep,hk3.keep.row HDz.out.1.2.2.1,Nat.lt_of_lt_of_le HDz.out.1.2.2.2 hk3.keep.size⟩,HDz.out.2.keep hk3.keep⟩
      case measure=>simp [intOf];omega
     ·gi_wp2
      refine bodyPost_ret (results_none rfl _ _ _) rfl ?_
      refine ⟨⟨_,rfl⟩,.inr ⟨pre2 ++ [⟨(x,y),hmem⟩],?_,hJx3⟩⟩
      rw [List.map_append,HP.out]
      show pz (za.take k) zb ++ _ ++ [(x,y)] <+: _
      rw [pz_snoc HY9.out]
      exact pz_part2 HX.out
    ·obtain rfl : m = nb:=by omega
     gi_wp2
     go_roundw
     case rel=>exact ⟨k + 1,pre2,by omega,by go_num,by rw [HP.out,pz_take HX.out,List.take_of_length_le (l:=zb) (by rw [HA.out.2.2.2];exact Nat.le_refl _)],hJ2,HD.out.1⟩
     case measure=>simp [intOf];omega
  ·obtain rfl : k = na:=by omega
   gi_wp2
   go_end0
   refine ⟨⟨_,rfl⟩,.inl ⟨pre,?_,hJs⟩⟩
   rw [hpre,List.take_of_length_le (by rw [HA.out.2.2.1];exact Nat.le_refl _)]
theorem pairs_in (n : Nat) (A A2 : Option Addr) (na ca nb cb : Nat) (w : World) :
  CallsIn Fence.wide n Tryz.prog 20 #[.slice A na ca,.slice A2 nb cb] w fun e w'=>e = .returned (.func (.func 50) #[] #[.pointer (some ⟨w.heap.size,0,none⟩),.pointer (some ⟨w.heap.size + 1,0,none⟩)]) ∧ w' = (w.alloc (.cells #[.slice A na ca] 22)).alloc (.cells #[.slice A2 nb cb] 22):=by
 refine callsIn_of_wp Tryz.func20 rfl trivial ?_ rfl
 simp only [Tryz.ntmps20,List.size_toArray,List.length_cons,List.length_nil,Nat.reduceAdd,Nat.reduceSub,Array.replicate_succ,Array.replicate_zero,List.push_toArray,List.append_toArray,List.nil_append,List.cons_append]
 gi_wp2
 go_ret
 exact ⟨rfl,rfl⟩
theorem pairs_stops (n : Nat) (hn : 1 ≤ n) (w0 : World) (B1 B2 G : Nat) (A A2 : Option Addr) (na ca nb cb : Nat) (za zb : List NewE) (hA : ReadX encE 5 w0 A za) (hA2 : ReadX encE 5 w0 A2 zb) (hna : za.length = na) (hnb : zb.length = nb) (hla : na ≤ 1048576) (hlb : nb ≤ 1048576)
  (w : World) (hc0 : Calm w0 w) (hB1 : w.cell? ⟨B1,0,none⟩ = some (.slice A na ca)) (hB2 : Stay G w B2 #[.slice A2 nb cb] 22) (hr : RowIn G w) (hG : G < w.heap.size) :
  SeqStopsK Fence.wide n Tryz.prog 50 #[.pointer (some ⟨B1,0,none⟩),.pointer (some ⟨B2,0,none⟩)] (fun x : PairZ za zb=>#[entZ x.1.1,entZ x.1.2]) (KpP w0 G) (fun ys=>ys.map (·.1) = pz za zb) (fun pre=>pre.map (·.1) <+: pz za zb) (pz za zb).length w:=fun l J Jx W hW hJ hJx hY h0=>by
 have hk : KeepR w W G:=KeepR.calm hG hW
 exact pairs1_in n hn w0 l B1 B2 G A A2 na ca nb cb za zb hA hA2 hna hnb hla hlb J Jx (fun pre X o hj=>hJ pre X _ none hj (World.grownBy_alloc X o none) (fun r e=>by cases e)) hY W (hc0.trans hW) (Calm.at_ hW hB1 (World.block_lt_of_cell? w ⟨B1,0,none⟩ hB1)) (hB2.keep hk) (hk.row hr) (Nat.lt_of_lt_of_le hG hk.size) h0
end Go.Proofs.YtnlnclefedohkaaGreatDoor
set_option linter.unusedVariables false
set_option linter.unusedSimpArgs false
namespace Go.Proofs.YtnlnclefedohkaaGreatDoor
open Go Go.RowKit Sy

end Go.Proofs.YtnlnclefedohkaaGreatDoor
set_option linter.unusedVariables false
set_option linter.unusedSimpArgs false
namespace Go.Proofs.YtnlnclefedohkaaGreatDoor
open Go Go.RowKit Sy

theorem comL_app : ∀ (m ms : List (Ent × Ent)),comL (m ++ ms) = match comL m with
  |none=>none
  |some l=>(comL ms).map (l ++ ·)
 |[],ms=>by
  simp only [List.nil_append,comL]
  simp
 |p :: m,ms=>by
  have ih:=comL_app m ms
  simp only [List.cons_append,comL]
  rcases comOf p.1 p.2 with _ | o
  ·rfl
  ·simp only
   rw [ih]
   rcases comL m with _ | l
   ·rfl
   ·simp only [Option.map_some]
    rcases comL ms with _ | l'
    ·rfl
    ·simp
theorem comL_one (p : Ent × Ent) : comL [p] = (comOf p.1 p.2).map Option.toList:=by
 simp only [comL]
 rcases comOf p.1 p.2 with _ | o
 ·rfl
 ·simp
theorem comL_stop {pre post : List (Ent × Ent)} {p : Ent × Ent} (h : comOf p.1 p.2 = none) : comL (pre ++ [p] ++ post) = none:=by
 have h1 : comL (pre ++ [p]) = none:=by
  rw [comL_app,comL_one,h]
  rcases comL pre with _ | l <;> rfl
 rw [comL_app,h1]
theorem comL_step {pre : List (Ent × Ent)} {out : List Ent} {p : Ent × Ent} {o : Option Ent} (h : comL pre = some out) (hp : comOf p.1 p.2 = some o) : comL (pre ++ [p]) = some (out ++ o.toList):=by
 rw [comL_app,h,comL_one,hp]
 rfl
theorem comOf_bad {x y : Ent} (h : (chainE x.rule y.rule).2 ≠ 0) : comOf x y = none:=by rw [comOf,if_pos h]
theorem comOf_miss {x y : Ent} (h : (chainE x.rule y.rule).2 = 0) (h1 : (chainE x.rule y.rule).1 = none) : comOf x y = some none:=by rw [comOf,if_neg (by simpa using h),h1]
theorem comOf_far {x y : Ent} {c : Rule} (h : (chainE x.rule y.rule).2 = 0) (h1 : (chainE x.rule y.rule).1 = some c) (h2 : backHs x.rule y.hs = none) : comOf x y = none:=by
 rw [comOf,if_neg (by simpa using h),h1]
 simp only
 rw [h2]
theorem comOf_put {x y : Ent} {c : Rule} {hs : List Pat} (h : (chainE x.rule y.rule).2 = 0) (h1 : (chainE x.rule y.rule).1 = some c) (h2 : backHs x.rule y.hs = some hs) : comOf x y = putH c (x.hs ++ hs):=by
 rw [comOf,if_neg (by simpa using h),h1]
 simp only
 rw [h2]
theorem backHs_app {r : Rule} : ∀ (m ms : List Pat),backHs r (m ++ ms) = match backHs r m with
  |none=>none
  |some l=>(backHs r ms).map (l ++ ·)
 |[],ms=>by
  simp only [List.nil_append,backHs]
  simp
 |p :: m,ms=>by
  have ih:=backHs_app (r:=r) m ms
  simp only [List.cons_append,backHs]
  by_cases h : (narR r p).2 ≠ 0
  ·rw [if_pos h,if_pos h]
  ·rw [if_neg h,if_neg h,ih]
   rcases backHs r m with _ | l
   ·rfl
   ·simp only [Option.map_some]
    rcases backHs r ms with _ | l'
    ·rfl
    ·simp
theorem backHs_snoc {r : Rule} {hs : List Pat} {p : Pat} : backHs r (hs ++ [p]) = match backHs r hs with
  |none=>none
  |some l=>if (narR r p).2 ≠ 0 then none else some (l ++ ((narR r p).1.map (·.left)).toList):=by
 rw [backHs_app]
 rcases backHs r hs with _ | l
 ·rfl
 ·simp only [backHs]
  by_cases h : (narR r p).2 ≠ 0
  ·rw [if_pos h,if_pos h]
   rfl
  ·rw [if_neg h,if_neg h]
   simp
theorem backHs_none {r : Rule} {m : List Pat} (h : backHs r m = none) (ms : List Pat) : backHs r (m ++ ms) = none:=by
 rw [backHs_app,h]
structure BackJ (w0 wr : World) (r : Rule) (hs : List Pat) (k : Nat) (lx ys : List NewP) (v : Value) : Prop where
 own : OwnX encP 2 40 w0 wr v (lx ++ ys)
 is : backHs r (hs.take k) = some (ys.map (·.p))
 each : ∀ y ∈ ys,SmallN wr w0.heap.size y
theorem BackJ.stop {w0 wr : World} {r : Rule} {hs : List Pat} {k : Nat} {lx ys : List NewP} {v : Value} (h : BackJ w0 wr r hs k lx ys v) {p : Pat} (hp : hs[k]? = some p) (hx : (narR r p).2 ≠ 0) : backHs r hs = none:=by
 have h1 : backHs r (hs.take (k + 1)) = none:=by
  rw [take_snoc hp,backHs_snoc,h.is]
  simp only
  rw [if_pos hx]
 have:=backHs_none h1 (hs.drop (k + 1))
 rw [List.take_append_drop] at this
 exact this
theorem BackJ.miss {w0 wr w2 : World} {r : Rule} {hs : List Pat} {k : Nat} {lx ys : List NewP} {v : Value} (h : BackJ w0 wr r hs k lx ys v) {p : Pat} (hp : hs[k]? = some p) (hx : (narR r p).2 = 0) (hn : (narR r p).1 = none) (hc : Calm wr w2) : BackJ w0 w2 r hs (k + 1) lx ys v:=by
 refine ⟨h.own.to hc,?_,fun y hy=>(h.each y hy).calm hc⟩
 rw [take_snoc hp,backHs_snoc,h.is]
 simp only
 rw [if_neg (by simpa using hx),hn]
 simp
theorem BackJ.hit {w0 wr w2 w3 : World} {r n : Rule} {hs : List Pat} {k : Nat} {lx ys : List NewP} {v v2 : Value} {x : NewP} (h : BackJ w0 wr r hs k lx ys v) {p : Pat} (hp : hs[k]? = some p) (hx : (narR r p).2 = 0) (hn : (narR r p).1 = some n) (hxp : x.p = n.left) (hc : Calm wr w2) (hxs : SmallN w2 w0.heap.size x) (hg : w2.grownBy w3 v.ownBlock) (hown : OwnX encP 2 40 w0 w3 v2 ((lx ++ ys) ++ [x])) : BackJ w0 w3 r hs (k + 1) lx (ys ++ [x]) v2:=by
 refine ⟨by rw [← List.append_assoc];exact hown,?_,fun y hy=>?_⟩
 ·rw [take_snoc hp,backHs_snoc,h.is]
  simp only
  rw [if_neg (by simpa using hx),hn,List.map_append]
  simp [hxp]
 ·rcases List.mem_append.1 hy with hy | hy
  ·exact ((h.each y hy).calm hc).own (by decide) (h.own.to hc).own hg
  ·rw [List.mem_singleton] at hy
   subst hy
   exact hxs.own (by decide) (h.own.to hc).own hg
theorem BackJ.to {w0 wr w2 : World} {r : Rule} {hs : List Pat} {k : Nat} {lx ys : List NewP} {v : Value} (h : BackJ w0 wr r hs k lx ys v) (hc : Calm wr w2) : BackJ w0 w2 r hs k lx ys v:=⟨h.own.to hc,h.is,fun y hy=>(h.each y hy).calm hc⟩
theorem backHs_len {r : Rule} (hr : ruleErr r = 0) {hs ks : List Pat} (h : backHs r hs = some ks) : (∀ p ∈ ks,patErr p = 0) ∧ ks.length ≤ hs.length:=by
 rw [backHs_eq hr] at h
 exact rightHs_good h
theorem BackJ.len {w0 wr : World} {r : Rule} {hs : List Pat} {k : Nat} {lx ys : List NewP} {v : Value} (h : BackJ w0 wr r hs k lx ys v) (hr : ruleErr r = 0) (hk : k ≤ hs.length) : ys.length ≤ k:=by
 have:=(backHs_len hr h.is).2
 rw [List.length_map,List.length_take] at this
 omega
theorem BackJ.all {w0 wr : World} {r : Rule} {hs : List Pat} {k : Nat} {lx ys : List NewP} {v : Value} (h : BackJ w0 wr r hs k lx ys v) (hk : hs.length ≤ k) : backHs r hs = some (ys.map (·.p)):=by
 have:=h.is
 rw [List.take_of_length_le hk] at this
 exact this

/-! ### Sizes -/
theorem chain_size {x y c : Rule} {K : Nat} (h : (chainE x y).1 = some c) (hK : 1 ≤ K) (hxl : ∀ s ∈ x.left.parts,s.length ≤ K) (hxr : ∀ s ∈ x.right.parts,s.length ≤ K) (hyl : ∀ s ∈ y.left.parts,s.length ≤ K) (hyr : ∀ s ∈ y.right.parts,s.length ≤ K) : (∀ s ∈ c.left.parts,s.length ≤ K + K) ∧ (∀ s ∈ c.right.parts,s.length ≤ K + K) ∧ c.excl = false:=by
 unfold chainE at h
 by_cases hx : ruleErr x ≠ 0
 ·rw [if_pos hx] at h;cases h
 ·rw [if_neg hx] at h
  by_cases hy : ruleErr y ≠ 0
  ·rw [if_pos hy] at h;cases h
  ·rw [if_neg hy] at h
   have tx : Sy.Twin x.left x.right:=ruleErr_twin.1 (by simpa using hx)
   have ty : Sy.Twin y.left y.right:=ruleErr_twin.1 (by simpa using hy)
   rcases hm : meetP x.right y.left with _ | m
   ·rw [hm] at h;cases h
   ·rw [hm] at h
    simp only at h
    split at h
    ·cases h
    ·obtain rfl:=Option.some.inj h
     obtain ⟨g1,g2,g3,g4⟩:=meetP_some hm
     have hin:=meetL_in (allOk_of g1) (allOk_of g2) g3
     have hmm:=meet_each hm hxr hyl hK
     exact ⟨carry_each ⟨tx.turn,g4,hin.1⟩ hxl hmm,carry_each ⟨ty,g4,hin.2⟩ hyr hmm,rfl⟩
theorem chain_good {x y : Ent} {c : Rule} (h : (chainE x.rule y.rule).1 = some c) : ruleErr c = 0:=by
 have hx : ruleErr x.rule = 0:=by
  unfold chainE at h
  by_cases hx : ruleErr x.rule ≠ 0
  ·rw [if_pos hx] at h;cases h
  ·simpa using hx
 have hy : ruleErr y.rule = 0:=by
  unfold chainE at h
  rw [if_neg (by simpa using hx)] at h
  by_cases hy : ruleErr y.rule ≠ 0
  ·rw [if_pos hy] at h;cases h
  ·simpa using hy
 exact (chain_some hx hy h).1
theorem narR_size {r n : Rule} {q : Pat} {L : Nat} (h : (narR r q).1 = some n) (hL : 1 ≤ L) (hl : ∀ x ∈ r.left.parts,x.length ≤ L) (hr : ∀ x ∈ r.right.parts,x.length ≤ L) (hq : ∀ x ∈ q.parts,x.length ≤ L) : ∀ x ∈ n.left.parts,x.length ≤ L + L:=by
 unfold narR at h
 by_cases h0 : ruleErr r ≠ 0
 ·rw [if_pos h0] at h
  cases h
 ·rw [if_neg h0] at h
  simp only at h
  rcases hn : (narL ⟨false,r.right,r.left⟩ q).1 with _ | m
  ·rw [hn] at h;cases h
  ·rw [hn] at h
   obtain rfl:=Option.some.inj h
   obtain ⟨_,_,_,p,hp,rfl,h1,h2⟩:=narL_some hn
   exact carry_each h2 hl (meet_each hp hr hq hL)
end Go.Proofs.YtnlnclefedohkaaGreatDoor
set_option linter.unusedVariables false
set_option linter.unusedSimpArgs false
namespace Go.Proofs.YtnlnclefedohkaaGreatDoor
open Go Go.RowKit
def noDefer (ops : Array Oper) : Bool:=ops.all fun o=>match o.op with
 |.defer _=>false
 |_=>true
theorem noDefer_spec {ops : Array Oper} (h : noDefer ops = true) {i : Nat} {o : Oper} (ho : ops[i]? = some o) : ∀ c,o.op ≠ .defer c:=by
 intro c hc
 obtain ⟨hi,rfl⟩:=Array.getElem?_eq_some_iff.1 ho
 have:=Array.all_eq_true.1 h i hi
 rw [hc] at this
 cases this
theorem oper_round {l n : Nat} {P : Program} {o : Oper} {a : Act} {w : World} {K : Act → World → Prop} {Q : Exit → Act → World → Prop} (hd : ∀ c,o.op ≠ .defer c) (h : o.wp P a w K Q) : o.wpIn (Fence.wide.inRound l) n P a w K Q:=by
 unfold Oper.wp at h
 refine ⟨fun _ _=>trivial,?_⟩
 rw [Oper.semAt_plain (Fence.wide.inRound l) _ _ hd]
 generalize (execOp a.eval o).run P w = r at *
 cases r with
 |ok x w'=>
  cases x <;> simp only [Oper.upon,Oper.uponIn] at h ⊢
  case enter f args=>exact ⟨(fun h9=>absurd h9 (by simp [Fence.wide])),CallsIn.inRound l (callsIn_wide.2 h)⟩
  case row row args=>
   refine ⟨(fun h9=>absurd h9 (by simp [Fence.wide])),fun c cs _=>?_⟩
   obtain ⟨v,w2,r,s⟩:=h c cs
   exact ⟨v,w2,r,stepsIn_wide.2 s⟩
  all_goals exact h
 |halt x w'=>cases x <;> simp only [Oper.upon,Oper.uponIn] at h ⊢ <;> exact h
theorem wpOp_round {l n i : Nat} {P : Program} {ops : Array Oper} {a : Act} {w : World} {K : Act → World → Prop} {Q : Exit → Act → World → Prop} (hn : noDefer ops = true) (hq : ¬ LetsOut Q) (h : wpOp P ops Q i K a w) : wpOpIn (Fence.wide.inRound l) n P ops Q i K a w:=by
 unfold wpOp at h
 unfold wpOpIn
 cases ho : ops[i]? with
 |none=>rw [ho] at h;exact h
 |some o=>
  rw [ho] at h
  simp only at h ⊢
  by_cases hw : Region.wanted o (yielded ops a.tmps) = true
  ·rw [if_pos hw] at h ⊢
   exact oper_round (noDefer_spec hn ho) (h.resolve_right fun h2=>hq h2.2)
  ·rw [if_neg hw] at h ⊢
   exact ⟨fun _ _=>trivial,h⟩
theorem wpAny_round {l n : Nat} {P : Program} {md : Region.Mode} {ops : Array Oper} {Q : Exit → Act → World → Prop} (hn : noDefer ops = true) (hq : ¬ LetsOut Q) : ∀ (fuel : Nat) (listed : Array Bool) (a : Act) (w : World),wpAny P md ops Q fuel listed a w → wpAnyIn (Fence.wide.inRound l) n P md ops Q fuel listed a w
 |0,_,_,_,h=>h
 |fuel + 1,_,_,_,h=>⟨h.1,fun i hi=>wpOpIn_mono (fun a' w' h'=>wpAny_round hn hq fuel _ a' w' h') (wpOp_round hn hq (h.2 i hi))⟩
theorem region_round {l n id : Nat} {P : Program} {ops : Array Oper} {Q : Exit → Act → World → Prop} {S : World → Prop} {a : Act} {w : World} (hm : P.follows .mixedOrders = true) (hn : noDefer ops = true) (hq : ¬ LetsOut Q) (hS : S w.drew)
  (h : S w.drew → wpAnyH P .any ops Q S ops.size (Array.replicate ops.size false) a w.drew) : (Code.region id ops true).wpIn (Fence.wide.inRound l) n P Q a w:=
 wpIn_region_any hm (wpAny_round hn hq _ _ _ _ (wpAny_of_held _ _ _ _ (h hS)))
theorem calls_round {n l : Nat} {P : Program} {f : FuncId} {args : Array Value} {w : World} {R : Ending → World → Prop} (h : Calls P f args w R) : CallsIn (Fence.wide.inRound l) n P f args w R:=CallsIn.inRound l (callsIn_wide.2 h)
end Go.Proofs.YtnlnclefedohkaaGreatDoor
set_option linter.unusedVariables false
set_option linter.unusedSimpArgs false
namespace Go.Proofs.YtnlnclefedohkaaGreatDoor
open Go Go.RowKit Sy

theorem own_empty {w : World} : OwnX encP 2 40 w (w.alloc (.cells #[] 40)) (.slice (some ⟨w.heap.size,0,none⟩) 0 0) []:=
 ⟨(Calm.refl w).alloc _,World.ownsRow_made (base:=w.heap.size) (e:=40) (size:=2) w #[] 0 (Nat.le_refl _) (by decide) rfl⟩
def CloneP (w : World) (l : List NewP) (e : Ending) (w' : World) : Prop:=∃ A c,e = .returned (.slice A l.length c) ∧ OwnX encP 2 40 w w' (.slice A l.length c) l
set_option maxRecDepth 100000 in
set_option maxHeartbeats 2000000 in
theorem clonep_c (l : List NewP) (A : Option Addr) (n c : Nat) (w : World) (hX : ReadX encP 2 w A l) (hn : l.length = n) (hle : n ≤ 100000) :
  Calls Tryz.prog 23 #[.slice A n c] w fun e w'=>CloneP w l e w':=by
 have q25 : ∀ (w : World) (a : Option Addr) (n c n' c' : Nat),(binOp .eql 41 (.slice a n c) (.slice none n' c')).run Tryz.prog w = .ok (.bool a.isNone) w:=fun w a n c n' c'=>Lib.run_eql_slice_nil w _ _ a n c n' c' Tryz.underlying41
 cases A with
 |none=>
  have h0 : l = []:=Classical.byContradiction fun hne=>by
   obtain ⟨b,o,hA,_⟩:=hX hne
   cases hA
  subst h0
  obtain rfl : 0 = n:=by simpa using hn
  go_enter Tryz.func23,Tryz.ntmps23
  go_wp2
  go_ret
  exact ⟨none,0,rfl,OwnX.nil (Calm.refl w)⟩
 |some ad=>
  have HO:=Lib.hid (own_empty (w:=w))
  have HR:=Lib.hid (ReadX.calm (enc:=encP) hX ((Calm.refl w).alloc (.cells #[] 40)))
  have HN:=Lib.hid hn
  clear hX hn
  go_enter Tryz.func23,Tryz.ntmps23
  go_wp2_with (at_builtin;refine wpList_append_ps rfl (.tmp 5) (.tmp 6) rfl w _ [] l rfl HO.out (some ad) n c rfl HN.out HR.out (by simp;omega) ?_;intro v6 w6 hown6 hgr6;obtain ⟨A6,c6,hv6⟩:=hown6.len_shape;subst hv6)
  go_ret
  rw [List.nil_append] at hown6
  exact ⟨A6,c6,rfl,hown6⟩

theorem wpListIn_append_ps {r n0 : Nat} {ops : Array Oper} {rest : List Oper} {o : Oper} {a : Act} {Q : Exit → Act → World → Prop} {w : World} (hgd : o.guard = none) (s x : Operand)
  (ho : o.op = .call { callee:=.builtin .append,args:=#[s,x],argTypes:=#[41,41] }) (w0 : World) (v : Value) (l m : List NewP) (hs : a.eval s = v) (hown : OwnX encP 2 40 w0 w v l) (A : Option Addr) (n c : Nat) (hx : a.eval x = .slice A n c) (hm : m.length = n)
  (hrd : ReadX encP 2 w A m) (hl : l.length + n ≤ 1000000)
  (h : ∀ v' w',OwnX encP 2 40 w0 w' v' (l ++ m) → w.grownBy w' v.ownBlock → wpListIn (Fence.wide.inRound r) n0 Tryz.prog ops Q rest (a.put o.dst v') w') : wpListIn (Fence.wide.inRound r) n0 Tryz.prog ops Q (o :: rest) a w:=by
 refine wpListIn_plain hgd fun _ hK=>?_
 obtain ⟨i0,hi0,hz0,hz1,hz2⟩:=info_parts info_patE
 obtain ⟨v',w',hr,h2,h3⟩:=run_append_xs (P:=Tryz.prog) (ty:=o.type) (c:=c) Tryz.underlying41 hi0 hz0 hz1 hz2 rfl (by decide) encP_len encP_one hown hm hrd (by omega) (by decide)
 refine oper_round (by rw [ho];intro c hc;cases hc) ?_
 unfold Oper.wp execOp
 simp only [ho,resolve,invoke,builtin,Sem.run_bind,Sem.run_pure,Result.andThen_ok,List.map_toArray,List.map_cons,List.map_nil,hs,hx]
 rw [hr]
 exact hK _ _ (h v' w' h2 h3)
end Go.Proofs.YtnlnclefedohkaaGreatDoor
set_option linter.unusedVariables false
set_option linter.unusedSimpArgs false
namespace Go.Proofs.YtnlnclefedohkaaGreatDoor
open Go Go.RowKit Sy
structure Turn (A B : World) : Prop where
 size : A.heap.size ≤ B.heap.size
 cells : ∀ (k : Nat) cs T x,A.heap[k]? = some (.cells cs T x) → B.heap[k]? = some (.cells cs T x)
theorem Turn.of {A B : World} {row : Option Nat} (hg : A.grownBy B row) (hr : ∀ r,row = some r → ∃ o : Obj,A.heap[r]? = some o ∧ o.isCells = false) : Turn A B:=
 ⟨hg.size,fun k cs T x h=>(hg.block k (heap_lt h) (fun e=>by obtain ⟨o,ho,hc⟩:=hr k e.symm;rw [h] at ho;cases ho;cases hc)).trans h⟩
theorem Turn.cell {A B : World} (h : Turn A B) {p : Addr} {v : Value} (hc : A.cell? p = some v) : B.cell? p = some v:=by
 have hb : ∃ cs T x,A.heap[p.block]? = some (.cells cs T x):=by
  unfold World.cell? at hc
  split at hc
  ·rename_i cs T x hh
   exact ⟨cs,T,x,hh⟩
  ·cases hc
 obtain ⟨cs,T,x,hh⟩:=hb
 rw [World.cell?_of_block ((h.cells _ _ _ _ hh).trans hh.symm)]
 exact hc
theorem StrsU.turn {A B : World} {ad : Option Addr} {ls : List Str} (h : StrsU A ad ls) (t : Turn A B) : StrsU B ad ls:=⟨h.len,h.each,fun h0=>by
 obtain ⟨b,o,hA,hb,hk⟩:=h.at_ h0
 exact ⟨b,o,hA,Nat.lt_of_lt_of_le hb t.size,fun k l hl=>t.cell (hk k l hl)⟩⟩
theorem NewS.turn {A B : World} {B0 c : Nat} {ad : Option Addr} {ls : List Str} (h : NewS A B0 ad c ls) (t : Turn A B) : NewS B B0 ad c ls:=⟨h.u.turn t,h.room,h.cap,h.new,fun a e=>by
 obtain ⟨cs,hh⟩:=h.row a e
 exact ⟨cs,t.cells _ _ _ _ hh⟩⟩
theorem SmallN.turn {A B : World} {B0 : Nat} {x : NewP} (h : SmallN A B0 x) (t : Turn A B) : SmallN B B0 x:=⟨h.new.turn t,h.few,h.each⟩
theorem RowX.turn {α : Type} {enc : α → List Value} {K : Nat} {T : TypeId} {A B : World} {g o : Nat} {l : List α} (h : RowX enc K T A g o l) (t : Turn A B) : RowX enc K T B g o l:=⟨by
 obtain ⟨cs,hh⟩:=h.kind
 exact ⟨cs,t.cells _ _ _ _ hh⟩,fun k x hx i u hu=>t.cell (h.cell k x hx i u hu)⟩
theorem PatsN.turn {A B : World} {B0 c : Nat} {ad : Option Addr} {ps : List Pat} (h : PatsN A B0 ad c ps) (t : Turn A B) : PatsN B B0 ad c ps:=by
 obtain ⟨l,h1,h2,h3⟩:=h.ex
 exact ⟨⟨l,h1,h2.imp id (fun ⟨g,a,b,r⟩=>⟨g,a,b,r.turn t⟩),fun x hx=>(h3 x hx).turn t⟩,h.room,h.cap⟩
theorem EntN.turn {A B : World} {B0 : Nat} {x : NewE} (h : EntN A B0 x) (t : Turn A B) : EntN B B0 x:=⟨h.l.turn t,h.r.turn t,h.h.turn t,h.few⟩
theorem owns_turn {A B : World} {base : Nat} {e : TypeId} {size n : Nat} {v : Value} {xs : List Value} (h : A.ownsRow base e size v n xs) (t : Turn A B) : B.ownsRow base e size v n xs:=by
 obtain ⟨h1,h2⟩:=h
 refine ⟨h1,h2.imp id ?_⟩
 rintro ⟨g,cap,cur,hv,hg,hh,r⟩
 exact ⟨g,cap,cur,hv,hg,t.cells _ _ _ _ hh,r⟩
theorem OwnX.turn {α : Type} {enc : α → List Value} {K : Nat} {T : TypeId} {w0 A B : World} {v : Value} {l : List α} (h : OwnX enc K T w0 A v l) (t : Turn A B) (hc : Calm w0 B) : OwnX enc K T w0 B v l:=⟨hc,owns_turn h.own t⟩
theorem ColE.turn {w0 A B : World} {G : Nat} {v : Value} {zs : List NewE} (h : ColE w0 A G v zs) (t : Turn A B) (hc : Calm w0 B) : ColE w0 B G v zs:=
 ⟨h.own.turn t hc,h.lo,by obtain ⟨cs,hh⟩:=h.kind;exact ⟨cs,t.cells _ _ _ _ hh⟩,t.cell h.c0,t.cell h.c1,fun z hz=>(h.each z hz).turn t⟩
theorem ColFull.turn {T : TypeId} {w0 A B : World} {G : Nat} (h : ColFull T w0 A G) (t : Turn A B) (hc : Calm w0 B) : ColFull T w0 B G:=
 ⟨hc,h.lo,by obtain ⟨cs,hh⟩:=h.kind;exact ⟨cs,t.cells _ _ _ _ hh⟩,by obtain ⟨ad,c,k⟩:=h.c0;exact ⟨ad,c,t.cell k⟩,t.cell h.c1⟩
theorem ColA.turn {w0 A B : World} {G : Nat} {es : List Ent} (h : ColA w0 A G es) (t : Turn A B) (hc : Calm w0 B) : ColA w0 B G es:=by
 rcases h with ⟨v,zs,h1,h2,h3⟩ | ⟨h1,h2⟩
 ·exact .inl ⟨v,zs,h1.turn t hc,h2,h3⟩
 ·exact .inr ⟨h1,h2.turn t hc⟩
theorem colA_own {β : Type} (w1 : World) (G : Nat) (f : β → List Ent → Prop) {D : Nat} (hD : w1.heap.size ≤ D) : OwnFrom D (fun (s : β) W=>∃ out,f s out ∧ ColA w1 W G out):=fun s A B row ⟨out,hf,h⟩ hg hr=>
 ⟨out,hf,h.turn (Turn.of hg (fun r e=>(hr r e).2)) (ownFrom_below (β:=Unit) (Nat.le_refl _) hD () A B row h.calm hg hr)⟩
theorem cell_own {β : Type} (p : Addr) (f : β → Value) (D : Nat) : OwnFrom D (fun (s : β) W=>W.cell? p = some (f s)):=fun s A B row h hg hr=>(Turn.of hg (fun r e=>(hr r e).2)).cell h
end Go.Proofs.YtnlnclefedohkaaGreatDoor
set_option linter.unusedVariables false
set_option linter.unusedSimpArgs false
namespace Go.Proofs.YtnlnclefedohkaaGreatDoor
open Go Go.RowKit Sy

def bothM (es fs : List Ent) : Int:=if (mapE es).2 ≠ 0 then (mapE es).2 else (mapE fs).2
set_option maxHeartbeats 4000000 in
theorem check2_c (es fs : List Ent) (n c n2 c2 g : Nat) (A A2 : Option Addr) (er : Int) (w : World) (h : EntsA w A es) (hcn : n ≤ c) (hcc : c ≤ 9223372036854775807) (hs : ∀ x ∈ es,SmallE x) (hn : es.length = n)
  (h2 : EntsA w A2 fs) (hcn2 : n2 ≤ c2) (hcc2 : c2 ≤ 9223372036854775807) (hs2 : ∀ x ∈ fs,SmallE x) (hn2 : fs.length = n2) (hr : bothM es fs = er) (k0 : w.cell? ⟨g,0,none⟩ = some (.slice A n c)) (k1 : w.cell? ⟨g,1,none⟩ = some (.slice A2 n2 c2)) (hg : g < w.heap.size) :
  Calls Tryz.prog 19 #[.slice (some ⟨g,0,none⟩) 2 2] w fun e w'=>e = .returned (.int .i64 er) ∧ Calm w w':=by
 obtain ⟨ix,hix⟩ : ∃ ix,(mapE es).1 = ix:=⟨_,rfl⟩
 obtain ⟨iy,hiy⟩ : ∃ iy,(mapE fs).1 = iy:=⟨_,rfl⟩
 obtain ⟨ea,hea⟩ : ∃ ea,(mapE es).2 = ea:=⟨_,rfl⟩
 obtain ⟨eb,heb⟩ : ∃ eb,(mapE fs).2 = eb:=⟨_,rfl⟩
 have KC:=check_c es n c A w h hcn hcc hs hn
 rw [hea,hix] at KC
 have HKC:=Lib.hid KC
 have HKD : Hid (∀ W,Calm w W → Calls Tryz.prog 49 #[.slice A2 n2 c2] W fun e w'=>e = .returned (.tuple #[.int .i64 (iy : Nat),.int .i64 eb]) ∧ Calm W w'):=fun W hW=>by
  have:=check_c fs n2 c2 A2 W (h2.calm hW) hcn2 hcc2 hs2 hn2
  rw [heb,hiy] at this
  exact this
 have HE0 : ea ≠ 0 → Hid (er = ea):=fun h0=>by
  show er = ea
  rw [← hr,bothM,hea,if_pos h0]
 have HE1 : ea = 0 → Hid (er = eb):=fun h0=>by
  show er = eb
  rw [← hr,bothM,hea,if_neg (by simpa using h0),heb]
 have HK1:=Lib.hid (And.intro k1 hg)
 clear h hs hn h2 hs2 hn2 hr hix hiy hea heb KC k1
 go_enter Tryz.func19,Tryz.ntmps19
 go_wp2_with fail
 go_loopw [9] (fun u wr=>(u = .int .i64 0 ∧ w = wr) ∨ (u = .int .i64 1 ∧ ea = 0 ∧ Hid (Calm w wr)) ∨ (u = .int .i64 2 ∧ ea = 0 ∧ eb = 0 ∧ Hid (Calm w wr))) (fun u _=>2 - (intOf u).toNat)
 case atStart=>exact .inl ⟨rfl,rfl⟩
 case round=>
  rcases hrel with ⟨rfl,rfl⟩ | ⟨rfl,rfl,HC⟩ | ⟨rfl,rfl,rfl,HC⟩
  ·go_wp2_with fail
   refine HKC.out.mono ?_
   rintro e w2 ⟨rfl,hc2⟩
   by_cases h0 : ea = 0
   ·subst h0
    clear HE0 HE1
    go_wp2_with fail
    go_roundw
    case rel=>exact .inr (.inl ⟨by go_num,trivial,hc2⟩)
    case measure=>simp [intOf]
   ·have hb : (ea != 0) = true:=by simpa using h0
    have HE:=HE0 h0
    clear HE0 HE1
    go_wp2_with fail
    go_ret
    exact ⟨by rw [HE.out];rfl,hc2⟩
  ·have k1:=HC.out.at_ HK1.out.1 HK1.out.2
   have HE:=HE1 rfl
   clear HE0 HE1
   go_wp2_with fail
   refine (HKD.out _ HC.out).mono ?_
   rintro e w2 ⟨rfl,hc2⟩
   have HC2 : Hid (Calm w w2):=HC.out.trans hc2
   by_cases h0 : eb = 0
   ·subst h0
    go_wp2_with fail
    go_roundw
    case rel=>exact .inr (.inr ⟨by go_num,trivial,trivial,HC2.out⟩)
    case measure=>simp [intOf]
   ·have hb : (eb != 0) = true:=by simpa using h0
    go_wp2_with fail
    go_ret
    exact ⟨by rw [HE.out];rfl,HC2.out⟩
  ·have HE:=HE1 rfl
   clear HE0 HE1
   go_wp2_with fail
   go_ret
   exact ⟨by rw [HE.out];rfl,HC.out⟩
end Go.Proofs.YtnlnclefedohkaaGreatDoor
set_option linter.unusedVariables false
set_option linter.unusedSimpArgs false
namespace Go.Proofs.YtnlnclefedohkaaGreatDoor
open Go Go.RowKit Go.Shelf Sy
attribute [local go_sem] Oper.semAt_some

theorem results_cc {fn : Func} {p q : Tmp} {t1 t2 : TypeId} (h : fn.results = #[.cell p t1,.cell q t2]) (tmps : Array Value) (P : Program) (w : World) :
  (results fn tmps).run P w = ((asAddr (tmps.getD p undef)).run P w).andThen fun a w₁=>((loadVar t1 a).run P w₁).andThen fun v w₂=>((asAddr (tmps.getD q undef)).run P w₂).andThen fun b w₃=>((loadVar t2 b).run P w₃).andThen fun u w₄=>.ok (.tuple #[v,u]) w₄:=by
 simp only [results,h]
 simp [Sem.run_bind,Result.andThen]
def Ent5 (W : World) (b : Nat) (z : NewE) : Prop:=W.heap[b]? = some (.cells #[.slice z.LA z.e.left.parts.length z.lc,.bool z.e.left.rest,.slice z.RA z.e.right.parts.length z.rc,.bool z.e.right.rest,.slice z.HA z.e.hs.length z.hc] 43 (0,0))
theorem Ent5.turn {A B : World} {b : Nat} {z : NewE} (h : Ent5 A b z) (t : Turn A B) : Ent5 B b z:=t.cells _ _ _ _ h
theorem Ent5.calm {A B : World} {b : Nat} {z : NewE} (h : Ent5 A b z) (hc : Calm A B) : Ent5 B b z:=(hc.block _ (heap_lt h)).trans h
theorem Ent5.five {W : World} {b : Nat} {z : NewE} (h : Ent5 W b z) : FiveB W b (.slice z.LA z.e.left.parts.length z.lc) (.bool z.e.left.rest) (.slice z.RA z.e.right.parts.length z.rc) (.bool z.e.right.rest) (.slice z.HA z.e.hs.length z.hc):=
 ⟨heap_lt h,by simp [World.cell?,show W.heap[b]? = _ from h],by simp [World.cell?,show W.heap[b]? = _ from h],by simp [World.cell?,show W.heap[b]? = _ from h],by simp [World.cell?,show W.heap[b]? = _ from h],by simp [World.cell?,show W.heap[b]? = _ from h],fun o=>by simp [World.frozen?,show W.heap[b]? = _ from h]⟩
structure FinE (w0 w : World) (A : Option Addr) (c : Nat) (out : List Ent) : Prop where
 room : out.length ≤ c
 cap : c ≤ 9223372036854775807
 ex : ∃ zs : List NewE,zs.map (·.e) = out ∧ ((A = none ∧ zs = []) ∨ ∃ g,A = some ⟨g,0,none⟩ ∧ w0.heap.size ≤ g ∧ RowX encE 5 43 w g 0 zs) ∧ ∀ z ∈ zs,EntN w w0.heap.size z
theorem FinE.set {w0 w : World} {A : Option Addr} {c : Nat} {out : List Ent} (h : FinE w0 w A c out) {p : Addr} (u : Value) (hp : p.block < w0.heap.size) : FinE w0 (w.setCell p u) A c out:=by
 obtain ⟨zs,h1,h2,h3⟩:=h.ex
 refine ⟨h.room,h.cap,zs,h1,h2.imp id ?_,fun z hz=>(h3 z hz).set u hp⟩
 rintro ⟨g,hA,hg,hr⟩
 exact ⟨g,hA,hg,hr.of_block (Deep.blk_setCell_other _ _ _ _ (by omega))⟩
theorem FinE.turn {w0 A B : World} {ad : Option Addr} {c : Nat} {out : List Ent} (h : FinE w0 A ad c out) (t : Turn A B) : FinE w0 B ad c out:=by
 obtain ⟨zs,h1,h2,h3⟩:=h.ex
 exact ⟨h.room,h.cap,zs,h1,h2.imp id (fun ⟨g,hA,hg,hr⟩=>⟨g,hA,hg,hr.turn t⟩),fun z hz=>(h3 z hz).turn t⟩
theorem FinE.out {w0 w : World} {A : Option Addr} {c B : Nat} {out : List Ent} (h : FinE w0 w A c out) (hB : B ≤ w0.heap.size) : EntOut out 0 B (.returned (.tuple #[.slice A out.length c,.int .i64 0])) w:=by
 obtain ⟨zs,h1,h2,h3⟩:=h.ex
 refine ⟨A,c,rfl,h.room,h.cap,zs,h1,?_,fun z hz=>(h3 z hz).mono hB⟩
 rcases h2 with ⟨rfl,rfl⟩ | ⟨g,rfl,_,hr⟩
 ·exact fun hne=>absurd rfl hne
 ·exact fun _=>⟨g,0,rfl,hr.lt,hr.cell⟩
theorem colA_fin (w0 w : World) (G : Nat) (out : List Ent) (h : ColA w0 w G out) :
  (32 < out.length ∧ Calls Tryz.prog 26 #[.pointer (some ⟨G,0,none⟩)] w fun e w'=>e = .returned (.tuple #[.slice none 0 0,.int .i64 72]) ∧ w' = w) ∨
  (out.length ≤ 32 ∧ ∃ A c,FinE w0 w A c out ∧ Calls Tryz.prog 26 #[.pointer (some ⟨G,0,none⟩)] w fun e w'=>e = .returned (.tuple #[.slice A out.length c,.int .i64 0]) ∧ w' = w):=by
 rcases h with ⟨v,zs,h1,rfl,h3⟩ | ⟨h1,h2⟩
 ·refine .inr ⟨h3,?_⟩
  have hr : ∃ A c,v = .slice A zs.length c ∧ FinE w0 w A c (zs.map (·.e)):=by
   have he : ∀ z ∈ zs,EntN w w0.heap.size z:=fun z hz=>(h1.each z hz).mono (by have:=h1.lo;omega)
   rcases h1.own.row encE_len with ⟨rfl,rfl⟩ | ⟨g,c,rfl,g1,g2,g3,hr⟩
   ·exact ⟨none,0,rfl,Nat.le_refl _,by omega,[],rfl,.inl ⟨rfl,rfl⟩,fun z hz=>by cases hz⟩
   ·exact ⟨_,c,rfl,by rw [List.length_map];exact g1,g2,zs,rfl,.inr ⟨g,rfl,g3,hr⟩,he⟩
  obtain ⟨A,c,hv,hf⟩:=hr
  refine ⟨A,c,hf,(resultE_c G v w h1.c0 h1.c1 A zs.length c hv).mono ?_⟩
  rintro e w' ⟨rfl,rfl⟩
  rw [List.length_map]
  exact ⟨rfl,rfl⟩
 ·refine .inl ⟨h1,(resultE_full G w h2.c1).mono ?_⟩
  rintro e w' ⟨rfl,rfl⟩
  exact ⟨rfl,rfl⟩
def eP {za zb : List NewE} (x : PairZ za zb) : Ent × Ent:=(x.1.1.e,x.1.2.e)
theorem pz_e {za zb : List NewE} {ys : List (PairZ za zb)} (h : ys.map (·.1) = pz za zb) : ys.map eP = pairsL (za.map (·.e)) (zb.map (·.e)):=by
 have e1 : ys.map eP = (ys.map (·.1)).map fun p=>(p.1.e,p.2.e):=by rw [List.map_map];rfl
 rw [e1,h]
 unfold pz pairsL
 rw [List.map_flatMap,List.flatMap_map]
 congr 1
 funext x
 rw [List.map_map,List.map_map]
 rfl
theorem pz_stop {za zb : List NewE} {pre : List (PairZ za zb)} (h : pre.map (·.1) <+: pz za zb) (hc : comL (pre.map eP) = none) : comL (pairsL (za.map (·.e)) (zb.map (·.e))) = none:=by
 obtain ⟨t,ht⟩:=h
 have e1 : pre.map eP = (pre.map (·.1)).map fun p=>(p.1.e,p.2.e):=by rw [List.map_map];rfl
 have e2 : pairsL (za.map (·.e)) (zb.map (·.e)) = (pz za zb).map fun p=>(p.1.e,p.2.e):=by
  unfold pz pairsL
  rw [List.map_flatMap,List.flatMap_map]
  congr 1
  funext x
  rw [List.map_map,List.map_map]
  rfl
 rw [e2,← ht,List.map_append,comL_app,← e1,hc]
theorem below_two {wR W w8 : World} {n : Nat} (h1 : Calm wR W) (h2 : Calm wR w8) (hn : n ≤ wR.heap.size) (hs : W.heap.size ≤ w8.heap.size) : Below n W w8:=
 ⟨h2.os.trans h1.os.symm,h2.tape.trans h1.tape.symm,h2.output.trans h1.output.symm,hs,fun k hk=>(h2.block k (Nat.lt_of_lt_of_le hk hn)).trans (h1.block k (Nat.lt_of_lt_of_le hk hn)).symm⟩
theorem entA_few {w : World} {z : NewE} (h : EntA w z) (hs : SmallE z.e) (hg : gErr z.e.reg = 0) : EntU w z:=h.u hs (by have : z.e.reg.hs.length ≤ 64:=(gErr_zero hg).2.2;have e : z.e.reg.hs = z.e.hs:=rfl;rw [e] at this;omega)
theorem chain_snd {x y c : Rule} (h : (chainE x y).1 = some c) : (chainE x y).2 = 0 ∧ c.excl = false:=by
 unfold chainE at h ⊢
 by_cases hx : ruleErr x ≠ 0
 ·rw [if_pos hx] at h;cases h
 ·rw [if_neg hx] at h ⊢
  by_cases hy : ruleErr y ≠ 0
  ·rw [if_pos hy] at h;cases h
  ·rw [if_neg hy] at h ⊢
   rcases hm : meetP x.right y.left with _ | m
   ·rw [hm] at h;cases h
   ·rw [hm] at h
    simp only at h ⊢
    split at h
    ·cases h
    ·rename_i h12
     rw [if_neg h12]
     obtain rfl:=Option.some.inj h
     exact ⟨rfl,rfl⟩
theorem narR_snd {r n : Rule} {q : Pat} (h : (narR r q).1 = some n) : (narR r q).2 = 0 ∧ n.excl = false:=by
 unfold narR at h ⊢
 by_cases h0 : ruleErr r ≠ 0
 ·rw [if_pos h0] at h
  cases h
 ·rw [if_neg h0] at h ⊢
  simp only at h ⊢
  rcases hn : (narL ⟨false,r.right,r.left⟩ q).1 with _ | m
  ·rw [hn] at h;cases h
  ·rw [hn] at h
   obtain rfl:=Option.some.inj h
   obtain ⟨_,_,g3,m',_,rfl,_,_⟩:=narL_some hn
   exact ⟨g3,rfl⟩
theorem tk {P : Program} {md : Region.Mode} {ops : Array Oper} {Q : Exit → Act → World → Prop} {S : World → Prop} (i : Nat) {oi : Oper} {v : Value} {fuel : Nat} {listed : Array Bool} {a : Act} {w : World} (hi : ops[i]? = some oi)
  (h : wpAnyH P md ops Q S fuel (listed.setIfInBounds i true) (a.put oi.dst v) w) (hs : Region.noSelect ops = true:=by kernel_rfl) (hf : Region.free md ops listed i = true:=by kernel_rfl) (hr : (Region.ready md ops listed).contains i = true:=by kernel_rfl)
  (hQ : ∀ c a w,Q (.panic c) (a.put oi.dst v) w → Q (.panic c) a w:=by exact fun _ _ _ h=>h) (hy : YieldsIf P ops S oi v a:=by exact Or.inl ⟨by rfl,by intro w9 hS9;(try dsimp only at hS9);go_simp;try with_reducible rfl⟩) (hS : S w:=by assumption) :
  wpAnyH P md ops Q S (fuel + 1) listed a w:=wpAnyH_take hi hs hf hr hQ hy hS h
theorem aP : (∀ {α : Type} {xs : List α} {i : Nat} (h : i < xs.toArray.size),xs.toArray[i] = xs[i]'(by simpa using h)) ∧ (∀ {α : Type} {a : α} {bs : List α} {i : Nat} (h : i + 1 < (a :: bs).length),(a :: bs)[i + 1] = bs[i]'(by simpa using h)) ∧ (∀ {α : Type} {a : α} {bs : List α} (h : 0 < (a :: bs).length),(a :: bs)[0] = a) ∧ (∀ {α : Type} (l : List α) (i : Nat) (a : α),l.toArray.setIfInBounds i a = (l.set i a).toArray) ∧ (∀ {α : Type} {x : α} {xs : List α} {a : α},(x :: xs).set 0 a = a :: xs) ∧ (∀ {α : Type} {x : α} {xs : List α} {i : Nat} {a : α},(x :: xs).set (i + 1) a = x :: xs.set i a):=
 ⟨fun h=>List.getElem_toArray h,fun h=>List.getElem_cons_succ ..,fun h=>List.getElem_cons_zero ..,fun l i a=>List.setIfInBounds_toArray ..,List.set_cons_zero,List.set_cons_succ⟩
end Go.Proofs.YtnlnclefedohkaaGreatDoor
