/- A collection of regions: its add, and where its row then lies; what the rounds of a range over a function keep of it; what it hands back. -/
import Derived.RangeFuncNested
import Derived.RangeFuncWrites
import Derived.Test.YtnlnclefedohkaaGreatDoorZOutM
import Derived.Test.YtnlnclefedohkaaGreatDoorZColF
import Derived.Test.YtnlnclefedohkaaGreatDoorZPutN
set_option linter.unusedVariables false
set_option linter.unusedSimpArgs false
namespace Go.Proofs.YtnlnclefedohkaaGreatDoor
open Go Go.RowKit Sy
structure Turn (A B : World) : Prop where
 size : A.heap.size ≤ B.heap.size
 cells : ∀ (k : Nat) cs T x,A.heap[k]? = some (.cells cs T x) → B.heap[k]? = some (.cells cs T x)
theorem Turn.of {A B : World} {row : Option Nat} (hg : A.grownBy B row) (hr : ∀ r,row = some r → ∃ o : Obj,A.heap[r]? = some o ∧ o.isCells = false) : Turn A B:=
 ⟨hg.size,fun k cs T x h=>(hg.block k (heap_lt h) (fun e=>by obtain ⟨o,ho,hc⟩:=hr k e.symm;rw [h] at ho;cases ho;cases hc)).trans h⟩
theorem Turn.cell {A B : World} (h : Turn A B) {p : Addr} {v : Value} (hc : A.cell? p = some v) : B.cell? p = some v:=by
 have hb : ∃ cs T x,A.heap[p.block]? = some (.cells cs T x):=by
  unfold World.cell? at hc
  split at hc
  ·rename_i cs T x hh
   exact ⟨cs,T,x,hh⟩
  ·cases hc
 obtain ⟨cs,T,x,hh⟩:=hb
 rw [World.cell?_of_block ((h.cells _ _ _ _ hh).trans hh.symm)]
 exact hc
theorem StrsU.turn {A B : World} {ad : Option Addr} {ls : List Str} (h : StrsU A ad ls) (t : Turn A B) : StrsU B ad ls:=⟨h.len,h.each,fun h0=>by
 obtain ⟨b,o,hA,hb,hk⟩:=h.at_ h0
 exact ⟨b,o,hA,Nat.lt_of_lt_of_le hb t.size,fun k l hl=>t.cell (hk k l hl)⟩⟩
theorem NewS.turn {A B : World} {B0 c : Nat} {ad : Option Addr} {ls : List Str} (h : NewS A B0 ad c ls) (t : Turn A B) : NewS B B0 ad c ls:=⟨h.u.turn t,h.room,h.cap,h.new,fun a e=>by
 obtain ⟨cs,hh⟩:=h.row a e
 exact ⟨cs,t.cells _ _ _ _ hh⟩⟩
theorem SmallN.turn {A B : World} {B0 : Nat} {x : NewP} (h : SmallN A B0 x) (t : Turn A B) : SmallN B B0 x:=⟨h.new.turn t,h.few,h.each⟩
theorem RowX.turn {α : Type} {enc : α → List Value} {K : Nat} {T : TypeId} {A B : World} {g o : Nat} {l : List α} (h : RowX enc K T A g o l) (t : Turn A B) : RowX enc K T B g o l:=⟨by
 obtain ⟨cs,hh⟩:=h.kind
 exact ⟨cs,t.cells _ _ _ _ hh⟩,fun k x hx i u hu=>t.cell (h.cell k x hx i u hu)⟩
theorem PatsN.turn {A B : World} {B0 c : Nat} {ad : Option Addr} {ps : List Pat} (h : PatsN A B0 ad c ps) (t : Turn A B) : PatsN B B0 ad c ps:=by
 obtain ⟨l,h1,h2,h3⟩:=h.ex
 exact ⟨⟨l,h1,h2.imp id (fun ⟨g,a,b,r⟩=>⟨g,a,b,r.turn t⟩),fun x hx=>(h3 x hx).turn t⟩,h.room,h.cap⟩
theorem EntN.turn {A B : World} {B0 : Nat} {x : NewE} (h : EntN A B0 x) (t : Turn A B) : EntN B B0 x:=⟨h.l.turn t,h.r.turn t,h.h.turn t,h.few⟩
theorem owns_turn {A B : World} {base : Nat} {e : TypeId} {size n : Nat} {v : Value} {xs : List Value} (h : A.ownsRow base e size v n xs) (t : Turn A B) : B.ownsRow base e size v n xs:=by
 obtain ⟨h1,h2⟩:=h
 refine ⟨h1,h2.imp id ?_⟩
 rintro ⟨g,cap,cur,hv,hg,hh,r⟩
 exact ⟨g,cap,cur,hv,hg,t.cells _ _ _ _ hh,r⟩
theorem OwnX.turn {α : Type} {enc : α → List Value} {K : Nat} {T : TypeId} {w0 A B : World} {v : Value} {l : List α} (h : OwnX enc K T w0 A v l) (t : Turn A B) (hc : Calm w0 B) : OwnX enc K T w0 B v l:=⟨hc,owns_turn h.own t⟩
theorem ColE.turn {w0 A B : World} {G : Nat} {v : Value} {zs : List NewE} (h : ColE w0 A G v zs) (t : Turn A B) (hc : Calm w0 B) : ColE w0 B G v zs:=
 ⟨h.own.turn t hc,h.lo,by obtain ⟨cs,hh⟩:=h.kind;exact ⟨cs,t.cells _ _ _ _ hh⟩,t.cell h.c0,t.cell h.c1,fun z hz=>(h.each z hz).turn t⟩
theorem ColFull.turn {T : TypeId} {w0 A B : World} {G : Nat} (h : ColFull T w0 A G) (t : Turn A B) (hc : Calm w0 B) : ColFull T w0 B G:=
 ⟨hc,h.lo,by obtain ⟨cs,hh⟩:=h.kind;exact ⟨cs,t.cells _ _ _ _ hh⟩,by obtain ⟨ad,c,k⟩:=h.c0;exact ⟨ad,c,t.cell k⟩,t.cell h.c1⟩
theorem ColA.turn {w0 A B : World} {G : Nat} {es : List Ent} (h : ColA w0 A G es) (t : Turn A B) (hc : Calm w0 B) : ColA w0 B G es:=by
 rcases h with ⟨v,zs,h1,h2,h3⟩ | ⟨h1,h2⟩
 ·exact .inl ⟨v,zs,h1.turn t hc,h2,h3⟩
 ·exact .inr ⟨h1,h2.turn t hc⟩
theorem cell_own {β : Type} (p : Addr) (f : β → Value) (D : Nat) : OwnFrom D (fun (s : β) W=>W.cell? p = some (f s)):=fun s A B row h hg hr=>(Turn.of hg (fun r e=>(hr r e).2)).cell h
end Go.Proofs.YtnlnclefedohkaaGreatDoor
set_option linter.unusedVariables false
set_option linter.unusedSimpArgs false
namespace Go.Proofs.YtnlnclefedohkaaGreatDoor
open Go Go.RowKit Sy
def KeepH (w w' : World) (G : Nat) : Prop:=∀ (b : Nat) (o : Obj),G < b → w.heap[b]? = some o → o.isCells = false → w'.heap[b]? = some o
theorem KeepH.calm {w w' : World} {G : Nat} (h : Calm w w') : KeepH w w' G:=fun b o _ ho _=>(h.block b (heap_lt ho)).trans ho
theorem KeepH.after {w w2 w3 : World} {G : Nat} (h : Calm w w2) (hk : KeepH w2 w3 G) : KeepH w w3 G:=fun b o hb ho hc=>hk b o hb ((h.block b (heap_lt ho)).trans ho) hc
theorem KeepH.trans {w w2 w3 : World} {G : Nat} (h : KeepH w w2 G) (hk : KeepH w2 w3 G) : KeepH w w3 G:=fun b o hb ho hc=>hk b o hb (h b o hb ho hc) hc
theorem KeepH.to {w w2 w3 : World} {G : Nat} (h : KeepH w w2 G) (hk : Calm w2 w3) : KeepH w w3 G:=h.trans (KeepH.calm hk)
theorem KeepH.from {w w2 : World} {G B : Nat} (h : KeepH w w2 G) (hs : w.heap.size ≤ w2.heap.size) (hB : G < B) : KeepsFrom B w w2:=⟨hs,fun k o hk ho hc=>h k o (by omega) ho hc⟩
set_option maxHeartbeats 4000000 in
theorem addG_f (w0 w : World) (G : Nat) (v : Value) (zs : List NewG) (z : NewG) (n hn : Nat) (re : Bool) (h : ColG w0 w G v zs) (hz : NewG.ok w (G + 1) z) (hl : zs.length < 32) (hnn : z.g.b.parts.length = n) (hhn : z.g.hs.length = hn) (hre : z.g.b.rest = re) :
  Calls Tryz.prog 37 #[.pointer (some ⟨G,0,none⟩),.agg #[.slice z.A n z.c,.bool re,.slice z.HA hn z.hc]] w fun e w'=>e = .returned (.tuple #[]) ∧ ∃ v',(ColG w0 w' G v' (zs ++ [z]) ∧ FrE w w' G v) ∧ Fresh w v v':=by
 obtain ⟨A,c,hv,_,_,_⟩:=h.shape
 obtain ⟨Z,hZ⟩ : ∃ Z,zs.length = Z:=⟨_,rfl⟩
 rw [hZ] at hl hv
 subst hv
 have HH:=Lib.hid h
 have HZ:=Lib.hid hz
 have HN:=Lib.hid (And.intro hnn (And.intro hhn hre))
 have HL:=Lib.hid hZ
 obtain ⟨w1,hw1⟩ : ∃ w1,w1 = w.alloc (.cells #[.slice z.A n z.c,.bool re,.slice z.HA hn z.hc] 68):=⟨_,rfl⟩
 obtain ⟨B,hB⟩ : ∃ B,w.heap.size = B:=⟨_,rfl⟩
 have hc1 : Calm w w1:=by rw [hw1];exact (Calm.refl _).alloc _
 have hb1 : RgB w1 B (.slice z.A n z.c) (.bool re) (.slice z.HA hn z.hc):=by
  rw [hw1,← hB]
  exact RgB.new w _ _ _
 have hzw1 : NewG.ok w1 (G + 1) z:=RegN.calm hz hc1
 have HZ1:=Lib.hid hzw1
 have hh1:=h.calm hc1
 have kw0:=h.c0
 have hGw:=h.lt
 have k0:=hh1.c0
 have k1:=hh1.c1
 have f0:=hh1.f 0
 have b0:=hb1.c0
 have b1:=hb1.c1
 have b2:=hb1.c2
 have HW:=Lib.hid hw1
 have HBs:=Lib.hid hB
 have HC:=Lib.hid hc1
 have HB1:=Lib.hid hb1
 have HH1:=Lib.hid hh1
 clear h hz hzw1 hnn hhn hre hZ hw1 hc1 hb1 hh1 hB
 have hne : ((Z : Int) == 32) = false:=by
  rw [beq_eq_false_iff_ne]
  omega
 have HK : Hid (∀ W,Calm w1 W → W.cell? ⟨G,0,none⟩ = some (.slice A Z c) ∧ W.cell? ⟨B,0,none⟩ = some (.slice z.A n z.c) ∧ W.cell? ⟨B,1,none⟩ = some (.bool re) ∧ W.cell? ⟨B,2,none⟩ = some (.slice z.HA hn z.hc)):=fun W hW=>
  have hb:=HB1.out.calm hW
  ⟨(HH1.out.calm hW).c0,hb.c0,hb.c1,hb.c2⟩
 go_enter Tryz.func37,Tryz.ntmps37
 go_wp2_with fail
 rw [← HW.out,HBs.out]
 have HSF : Hid (∀ W W' : World,Calm w1 W → W.grownBy W' (Value.slice A Z c).ownBlock → W'.cell? ⟨G,0,none⟩ = some (.slice A Z c) ∧ W'.frozen? ⟨G,0,none⟩ = false):=fun W W' hW hg=>HH1.out.after hW hg
 have HKB : Hid (∀ W W' : World,Calm w1 W → W.grownBy W' (Value.slice A Z c).ownBlock → W'.cell? ⟨B,0,none⟩ = some (.slice z.A n z.c) ∧ W'.cell? ⟨B,1,none⟩ = some (.bool re) ∧ W'.cell? ⟨B,2,none⟩ = some (.slice z.HA hn z.hc)):=fun W W' hW hg=>by
  have hb:=HB1.out.calm hW
  have hk:=hg.block B hb.lt (fun e=>by
   have h1:=HH.out.own.blk_lt e
   have h2:=HBs.out
   omega)
  exact ⟨(World.cell?_of_block (a:=⟨B,0,none⟩) hk).trans hb.c0,(World.cell?_of_block (a:=⟨B,1,none⟩) hk).trans hb.c1,(World.cell?_of_block (a:=⟨B,2,none⟩) hk).trans hb.c2⟩
 have hG1:=HH1.out.lt
 have kd0 : w1.drew.cell? ⟨G,0,none⟩ = some (.slice A Z c):=(HK.out _ (Below.drew (Calm.refl _))).1
 have hBG : ¬ B = G:=by
  have h1:=HH.out.lt
  have h2:=HBs.out
  omega
 have hGB : ¬ G = B:=fun e=>hBG e.symm
 have HSet : Hid (∀ W W' : World,∀ u,Calm w1 W → W.grownBy W' (Value.slice A Z c).ownBlock → (W'.setCell ⟨G,0,none⟩ u).cell? ⟨B,0,none⟩ = some (.slice z.A n z.c) ∧ (W'.setCell ⟨G,0,none⟩ u).cell? ⟨B,1,none⟩ = some (.bool re) ∧ (W'.setCell ⟨G,0,none⟩ u).cell? ⟨B,2,none⟩ = some (.slice z.HA hn z.hc)):=fun W W' u hW hg=>by
  have h:=HKB.out W W' hW hg
  have hk : (W'.setCell ⟨G,0,none⟩ u).heap[B]? = W'.heap[B]?:=Deep.blk_setCell_other _ _ _ _ hBG
  exact ⟨(World.cell?_of_block (a:=⟨B,0,none⟩) hk).trans h.1,(World.cell?_of_block (a:=⟨B,1,none⟩) hk).trans h.2.1,(World.cell?_of_block (a:=⟨B,2,none⟩) hk).trans h.2.2⟩
 go_region_law ((refine step_append_xf (enc:=encG) (K:=3) (T:=68) Tryz.underlying29 info_reg rfl (by decide) (by decide) encG_len encG_one rfl (.tmp 17) (.tmp 19) rfl w0 (.slice A Z c) zs [z] (by simp [Act.eval,Act.put]) (HH1.out.own.to (by first | exact (Calm.refl _).alloc _ | exact (Below.drew (Calm.refl _)).alloc _ | exact Below.drew ((Calm.refl _).alloc _) | exact ((Calm.refl _).drewN _).alloc _ | exact ((Calm.refl _).alloc _).drewN _)) _ 1 1 rfl rfl (read_newN z HN.out.1 HN.out.2.2 HN.out.2.1 rfl) (by rw [HL.out];omega) ?_;intro v9 w9 hown9 hg9 hfr9;have hs9:=HSF.out _ _ (by first | exact (Calm.refl _).alloc _ | exact (Below.drew (Calm.refl _)).alloc _ | exact Below.drew ((Calm.refl _).alloc _) | exact ((Calm.refl _).drewN _).alloc _ | exact ((Calm.refl _).alloc _).drewN _) hg9;have k9:=hs9.1;have f9:=hs9.2;obtain ⟨A9,n9,c9,rfl⟩:=hown9.shape))
 all_goals
  first
   |have HD : Hid ((ColG w0 (w9.setCell ⟨G,0,none⟩ (.slice A9 n9 c9)) G (.slice A9 n9 c9) (zs ++ [z]) ∧ FrE w (w9.setCell ⟨G,0,none⟩ (.slice A9 n9 c9)) G (.slice A Z c)) ∧ Fresh w (.slice A Z c) (.slice A9 n9 c9)):=⟨⟨HH1.out.add HZ1.out ((Below.drew (Calm.refl _)).alloc _) hown9 hg9,FrE.of (HC.out.trans ((Below.drew (Calm.refl _)).alloc _)) hg9⟩,Fresh.of (HC.out.trans ((Below.drew (Calm.refl _)).alloc _)) hfr9⟩
   |have HD : Hid ((ColG w0 (w9.setCell ⟨G,0,none⟩ (.slice A9 n9 c9)) G (.slice A9 n9 c9) (zs ++ [z]) ∧ FrE w (w9.setCell ⟨G,0,none⟩ (.slice A9 n9 c9)) G (.slice A Z c)) ∧ Fresh w (.slice A Z c) (.slice A9 n9 c9)):=⟨⟨HH1.out.add HZ1.out ((Calm.refl _).alloc _) hown9 hg9,FrE.of (HC.out.trans ((Calm.refl _).alloc _)) hg9⟩,Fresh.of (HC.out.trans ((Calm.refl _).alloc _)) hfr9⟩
   |have HD : Hid ((ColG w0 (w9.setCell ⟨G,0,none⟩ (.slice A9 n9 c9)) G (.slice A9 n9 c9) (zs ++ [z]) ∧ FrE w (w9.setCell ⟨G,0,none⟩ (.slice A9 n9 c9)) G (.slice A Z c)) ∧ Fresh w (.slice A Z c) (.slice A9 n9 c9)):=⟨⟨HH1.out.add HZ1.out (Below.drew ((Calm.refl _).alloc _)) hown9 hg9,FrE.of (HC.out.trans (Below.drew ((Calm.refl _).alloc _))) hg9⟩,Fresh.of (HC.out.trans (Below.drew ((Calm.refl _).alloc _))) hfr9⟩
   |have HD : Hid ((ColG w0 (w9.setCell ⟨G,0,none⟩ (.slice A9 n9 c9)) G (.slice A9 n9 c9) (zs ++ [z]) ∧ FrE w (w9.setCell ⟨G,0,none⟩ (.slice A9 n9 c9)) G (.slice A Z c)) ∧ Fresh w (.slice A Z c) (.slice A9 n9 c9)):=⟨⟨HH1.out.add HZ1.out (((Calm.refl _).drewN _).alloc _) hown9 hg9,FrE.of (HC.out.trans (((Calm.refl _).drewN _).alloc _)) hg9⟩,Fresh.of (HC.out.trans (((Calm.refl _).drewN _).alloc _)) hfr9⟩
   |have HD : Hid ((ColG w0 (w9.setCell ⟨G,0,none⟩ (.slice A9 n9 c9)) G (.slice A9 n9 c9) (zs ++ [z]) ∧ FrE w (w9.setCell ⟨G,0,none⟩ (.slice A9 n9 c9)) G (.slice A Z c)) ∧ Fresh w (.slice A Z c) (.slice A9 n9 c9)):=⟨⟨HH1.out.add HZ1.out (((Calm.refl _).alloc _).drewN _) hown9 hg9,FrE.of (HC.out.trans (((Calm.refl _).alloc _).drewN _)) hg9⟩,Fresh.of (HC.out.trans (((Calm.refl _).alloc _).drewN _)) hfr9⟩
  go_wp2_with fail
  exact bodyPost_end (v:=.tuple #[]) (results_none rfl _ _ _) rfl ⟨rfl,_,HD.out.1,HD.out.2⟩
theorem addG_fullR (w0 w : World) (G : Nat) (A : Option Addr) (c : Nat) (bv : Bool) (LA HA : Option Addr) (nl lc hn hcap : Nat) (lr : Bool) (h0 : Calm w0 w) (hlo : w0.heap.size ≤ G) (hk : ∃ cs,w.heap[G]? = some (.cells cs 70 (0,0))) (k0 : w.cell? ⟨G,0,none⟩ = some (.slice A 32 c)) (k1 : w.cell? ⟨G,1,none⟩ = some (.bool bv)) :
  Calls Tryz.prog 37 #[.pointer (some ⟨G,0,none⟩),.agg #[.slice LA nl lc,.bool lr,.slice HA hn hcap]] w fun e w'=>e = .returned (.tuple #[]) ∧ ColFull 70 w0 w' G ∧ FrB w w' (G + 1) ∧ KeepR w w' G:=by
 obtain ⟨w1,hw1⟩ : ∃ w1,w1 = w.alloc (.cells #[.slice LA nl lc,.bool lr,.slice HA hn hcap] 68):=⟨_,rfl⟩
 have hc1 : Calm w w1:=by rw [hw1];exact (Calm.refl _).alloc _
 have HD:=Lib.hid (colFull_of h0 hlo hk k0 k1 (Calm.refl w))
 have HW:=Lib.hid hw1
 have hlt : G < w.heap.size:=by
  obtain ⟨cs,hh⟩:=hk
  exact heap_lt hh
 have f1 : w.frozen? ⟨G,1,none⟩ = false:=by
  obtain ⟨cs,hh⟩:=hk
  exact frozen_of_row w G 1 cs _ hh
 clear hw1 hc1 h0 hlo hk
 go_enter Tryz.func37,Tryz.ntmps37
 go_wp2_with fail
 exact bodyPost_ret (v:=.tuple #[]) (results_none rfl _ _ _) rfl ⟨rfl,HD.out.1.to ((Calm.refl _).alloc _),HD.out.2.calm ((Calm.refl _).alloc _) (by simp),(KeepR.set1 w G _).trans (KeepR.calm (by simpa using hlt) ((Calm.refl _).alloc _))⟩
theorem addG_n (w0 wq w : World) (G : Nat) (gs : List Reg) (z : NewG) (n hn : Nat) (re : Bool) (h : ColB w0 wq G gs) (hq : Calm wq w) (hz : NewG.ok w (G + 1) z) (hnn : z.g.b.parts.length = n) (hhn : z.g.hs.length = hn) (hre : z.g.b.rest = re) :
  Calls Tryz.prog 37 #[.pointer (some ⟨G,0,none⟩),.agg #[.slice z.A n z.c,.bool re,.slice z.HA hn z.hc]] w fun e w'=>e = .returned (.tuple #[]) ∧ ColB w0 w' G (gs ++ [z.g]) ∧ FrB w w' wq.heap.size ∧ KeepH w w' G ∧ KeepR w w' G:=by
 have hGq:=h.lt
 rcases h with ⟨v,zs,h1,rfl,h3⟩ | ⟨h1,h2⟩
 ·have hw:=h1.calm hq
  rw [List.length_map] at h3
  by_cases h32 : zs.length < 32
  ·refine (addG_f w0 w G v zs z n hn re hw hz h32 hnn hhn hre).mono ?_
   rintro e w' ⟨he,v',⟨hc,hf⟩,hfr⟩
   refine ⟨he,.inl ⟨v',_,hc,by rw [List.map_append];rfl,by rw [List.length_append,List.length_map];simp only [List.length_cons,List.length_nil];omega⟩,fun b hb hbs=>hf b hbs (by omega) (fun e=>?_),fun b o hb ho hcl=>?_,?_⟩
   ·have:=h1.own.blk_lt e
    omega
   ·rw [hf b (heap_lt ho) (by omega) (fun e=>by obtain ⟨cs,hcs⟩:=hw.own.cellsBlock e ho;rw [hcs] at hcl;cases hcl)]
    exact ho
   ·have hcw:=hw.c0
    have hsz : w.heap.size ≤ w'.heap.size:=by
     by_cases hg : w.heap.size = G + 1
     ·have:=hc.lt
      omega
     ·have hgl:=hw.lt
      have hlast:=hf (w.heap.size - 1) (by omega) (by omega)
      by_cases hown : some (w.heap.size - 1) = v.ownBlock
      ·rcases hfr with hfr | ⟨g,hfr,hg2⟩
       ·have:=hc.own.blk_lt (hown.trans hfr.symm)
        omega
       ·have:=hc.own.blk_lt hfr.symm
        omega
      ·have:=hlast hown
       rw [Array.getElem?_eq_getElem (show w.heap.size - 1 < w.heap.size by omega)] at this
       have:=heap_lt this
       omega
    refine ⟨hsz,fun b cs T x hb hfree=>⟨(hf b (heap_lt hb) hfree.1 (hfree.2 v hcw)).trans hb,hfree.1,fun u hu=>?_⟩,fun _ u hu g hg=>?_⟩
    ·obtain rfl : v' = u:=Option.some.inj (hc.c0.symm.trans hu)
     rcases hfr with hfr | ⟨g,hfr,hg⟩
     ·rw [hfr]
      exact hfree.2 v hcw
     ·rw [hfr]
      intro e
      have:=heap_lt hb
      obtain rfl:=Option.some.inj e
      omega
    ·obtain rfl : v' = u:=Option.some.inj (hc.c0.symm.trans hu)
     exact hc.own.blk_lt hg.symm
  ·have h32' : zs.length = 32:=by omega
   obtain ⟨A,c,rfl,_,_,_⟩:=hw.shape
   rw [h32'] at hw
   refine (addG_fullR w0 w G A c false z.A z.HA n z.c hn z.hc re hw.own.calm hw.lo hw.kind hw.c0 hw.c1).mono ?_
   rintro e w' ⟨he,hc,hf,hkr⟩
   exact ⟨he,.inr ⟨by rw [List.length_append,List.length_map,h32'];simp,hc⟩,fun b hb hbs=>hf b (by omega) hbs,fun b o hb ho _=>(hf b hb (heap_lt ho)).trans ho,hkr⟩
 ·have hw:=h2.to hq
  obtain ⟨A,c,k0⟩:=hw.c0
  refine (addG_fullR w0 w G A c true z.A z.HA n z.c hn z.hc re hw.calm hw.lo hw.kind k0 hw.c1).mono ?_
  rintro e w' ⟨he,hc,hf,hkr⟩
  exact ⟨he,.inr ⟨by rw [List.length_append];omega,hc⟩,fun b hb hbs=>hf b (by omega) hbs,fun b o hb ho _=>(hf b hb (heap_lt ho)).trans ho,hkr⟩

/-! ### what is turned -/
theorem RegN.turn {X Y : World} {B : Nat} {A : Option Addr} {c : Nat} {HA : Option Addr} {hc : Nat} {g : Reg} (h : RegN X B A c HA hc g) (t : Turn X Y) : RegN Y B A c HA hc g:=⟨h.base.turn t,h.holes.turn t⟩
theorem ColG.turn {w0 A B : World} {G : Nat} {v : Value} {zs : List NewG} (h : ColG w0 A G v zs) (t : Turn A B) (hc : Calm w0 B) : ColG w0 B G v zs:=
 ⟨h.own.turn t hc,h.lo,by obtain ⟨cs,hh⟩:=h.kind;exact ⟨cs,t.cells _ _ _ _ hh⟩,t.cell h.c0,t.cell h.c1,fun z hz=>RegN.turn (h.each z hz) t⟩
theorem ColB.turn {w0 A B : World} {G : Nat} {gs : List Reg} (h : ColB w0 A G gs) (t : Turn A B) (hc : Calm w0 B) : ColB w0 B G gs:=by
 rcases h with ⟨v,zs,h1,h2,h3⟩ | ⟨h1,h2⟩
 ·exact .inl ⟨v,zs,h1.turn t hc,h2,h3⟩
 ·exact .inr ⟨h1,h2.turn t hc⟩
theorem colB_own {β : Type} (w1 : World) (G : Nat) (f : β → List Reg → Prop) {D : Nat} (hD : w1.heap.size ≤ D) : OwnFrom D (fun (s : β) W=>∃ out,f s out ∧ ColB w1 W G out):=fun s A B row ⟨out,hf,h⟩ hg hr=>
 ⟨out,hf,h.turn (Turn.of hg (fun r e=>(hr r e).2)) (ownFrom_below (β:=Unit) (Nat.le_refl _) hD () A B row h.calm hg hr)⟩
structure FinG (w0 w : World) (A : Option Addr) (c : Nat) (out : List Reg) : Prop where
 room : out.length ≤ c
 cap : c ≤ 9223372036854775807
 ex : ∃ zs : List NewG,zs.map (·.g) = out ∧ ((A = none ∧ zs = []) ∨ ∃ g,A = some ⟨g,0,none⟩ ∧ w0.heap.size ≤ g ∧ RowX encG 3 68 w g 0 zs) ∧ ∀ z ∈ zs,NewG.ok w w0.heap.size z
theorem FinG.set {w0 w : World} {A : Option Addr} {c : Nat} {out : List Reg} (h : FinG w0 w A c out) {p : Addr} (u : Value) (hp : p.block < w0.heap.size) : FinG w0 (w.setCell p u) A c out:=by
 obtain ⟨zs,h1,h2,h3⟩:=h.ex
 refine ⟨h.room,h.cap,zs,h1,h2.imp id ?_,fun z hz=>RegN.set (h3 z hz) u hp⟩
 rintro ⟨g,hA,hg,hr⟩
 exact ⟨g,hA,hg,hr.of_block (Deep.blk_setCell_other _ _ _ _ (by omega))⟩
theorem FinG.turn {w0 A B : World} {ad : Option Addr} {c : Nat} {out : List Reg} (h : FinG w0 A ad c out) (t : Turn A B) : FinG w0 B ad c out:=by
 obtain ⟨zs,h1,h2,h3⟩:=h.ex
 exact ⟨h.room,h.cap,zs,h1,h2.imp id (fun ⟨g,hA,hg,hr⟩=>⟨g,hA,hg,hr.turn t⟩),fun z hz=>RegN.turn (h3 z hz) t⟩
theorem FinG.out {w0 w : World} {A : Option Addr} {c B : Nat} {out : List Reg} (h : FinG w0 w A c out) (hB : B ≤ w0.heap.size) : RegOut out 0 B (.returned (.tuple #[.slice A out.length c,.int .i64 0])) w:=by
 obtain ⟨zs,h1,h2,h3⟩:=h.ex
 refine ⟨A,c,rfl,h.room,h.cap,zs,h1,?_,fun z hz=>RegN.mono (h3 z hz) hB⟩
 rcases h2 with ⟨rfl,rfl⟩ | ⟨g,rfl,_,hr⟩
 ·exact fun hne=>absurd rfl hne
 ·exact fun _=>⟨g,0,rfl,hr.lt,hr.cell⟩
theorem colB_fin (w0 w : World) (G : Nat) (out : List Reg) (h : ColB w0 w G out) :
  (32 < out.length ∧ Calls Tryz.prog 38 #[.pointer (some ⟨G,0,none⟩)] w fun e w'=>e = .returned (.tuple #[.slice none 0 0,.int .i64 72]) ∧ w' = w) ∨
  (out.length ≤ 32 ∧ ∃ A c,FinG w0 w A c out ∧ Calls Tryz.prog 38 #[.pointer (some ⟨G,0,none⟩)] w fun e w'=>e = .returned (.tuple #[.slice A out.length c,.int .i64 0]) ∧ w' = w):=by
 rcases h with ⟨v,zs,h1,rfl,h3⟩ | ⟨h1,h2⟩
 ·refine .inr ⟨h3,?_⟩
  have hr : ∃ A c,v = .slice A zs.length c ∧ FinG w0 w A c (zs.map (·.g)):=by
   have he : ∀ z ∈ zs,NewG.ok w w0.heap.size z:=fun z hz=>RegN.mono (h1.each z hz) (by have:=h1.lo;omega)
   rcases h1.own.row encG_len with ⟨rfl,rfl⟩ | ⟨g,c,rfl,g1,g2,g3,hr⟩
   ·exact ⟨none,0,rfl,Nat.le_refl _,by omega,[],rfl,.inl ⟨rfl,rfl⟩,fun z hz=>by cases hz⟩
   ·exact ⟨_,c,rfl,by rw [List.length_map];exact g1,g2,zs,rfl,.inr ⟨g,rfl,g3,hr⟩,he⟩
  obtain ⟨A,c,hv,hf⟩:=hr
  refine ⟨A,c,hf,(resultG_c G v w h1.c0 h1.c1 A zs.length c hv).mono ?_⟩
  rintro e w' ⟨rfl,rfl⟩
  rw [List.length_map]
  exact ⟨rfl,rfl⟩
 ·refine .inl ⟨h1,(resultG_full G w h2.c1).mono ?_⟩
  rintro e w' ⟨rfl,rfl⟩
  exact ⟨rfl,rfl⟩
end Go.Proofs.YtnlnclefedohkaaGreatDoor
