/- A collection of entries in a block of its own; its add. -/
import Derived.Deep.DeepCutAuto
import Derived.Deep.RegionLaw
import Derived.Test.YtnlnclefedohkaaGreatDoorZGChkU
import Derived.Test.YtnlnclefedohkaaGreatDoorZEntM
import Derived.Test.YtnlnclefedohkaaGreatDoorZMapL
import Derived.Test.YtnlnclefedohkaaGreatDoorZNarW
import Derived.Test.YtnlnclefedohkaaGreatDoorZConcatP
import Derived.Test.YtnlnclefedohkaaGreatDoorZBindW
set_option linter.unusedVariables false
set_option linter.unusedSimpArgs false
namespace Go.Proofs.YtnlnclefedohkaaGreatDoor
open Go Go.RowKit Sy

abbrev set3 (w : World) (b : Nat) (u0 u1 u2 : Value) : World:=((w.setCell ⟨b,0,none⟩ u0).setCell ⟨b,1,none⟩ u1).setCell ⟨b,2,none⟩ u2
theorem calm3' {w0 w : World} {b : Nat} (h : Calm w0 w) (hb : w0.heap.size ≤ b) (u0 u1 u2 : Value) : Calm w0 (set3 w b u0 u1 u2):=
 Below.setCell (p:=⟨b,2,none⟩) (Below.setCell (p:=⟨b,1,none⟩) (Below.setCell (p:=⟨b,0,none⟩) h hb _) hb _) hb _
theorem NewS.set3 {w : World} {B b c : Nat} {A : Option Addr} {ls : List Str} (h : NewS w B A c ls) (hb : b < B) (u0 u1 u2 : Value) : NewS (Go.Proofs.YtnlnclefedohkaaGreatDoor.set3 w b u0 u1 u2) B A c ls:=
 ((h.set (p:=⟨b,0,none⟩) u0 hb).set (p:=⟨b,1,none⟩) u1 hb).set (p:=⟨b,2,none⟩) u2 hb
theorem PatsN.set3 {w : World} {B b c : Nat} {A : Option Addr} {ps : List Pat} (h : PatsN w B A c ps) (hb : b < B) (u0 u1 u2 : Value) : PatsN (Go.Proofs.YtnlnclefedohkaaGreatDoor.set3 w b u0 u1 u2) B A c ps:=
 ((h.set (p:=⟨b,0,none⟩) u0 hb).set (p:=⟨b,1,none⟩) u1 hb).set (p:=⟨b,2,none⟩) u2 hb
structure ThreeB (w : World) (B : Nat) (v0 v1 v2 : Value) : Prop where
 lt : B < w.heap.size
 c0 : w.cell? ⟨B,0,none⟩ = some v0
 c1 : w.cell? ⟨B,1,none⟩ = some v1
 c2 : w.cell? ⟨B,2,none⟩ = some v2
 fz : ∀ o,w.frozen? ⟨B,o,none⟩ = false
theorem ThreeB.calm {w w' : World} {B : Nat} {v0 v1 v2 : Value} (h : ThreeB w B v0 v1 v2) (hc : Calm w w') : ThreeB w' B v0 v1 v2:=
 ⟨Nat.lt_of_lt_of_le h.lt hc.size,hc.at_ h.c0 h.lt,hc.at_ h.c1 h.lt,hc.at_ h.c2 h.lt,fun o=>(hc.frozen (p:=⟨B,o,none⟩) h.lt).trans (h.fz o)⟩
theorem ThreeB.new (w : World) (v0 v1 v2 : Value) (T : TypeId) : ThreeB (w.alloc (.cells #[v0,v1,v2] T)) w.heap.size v0 v1 v2:=
 ⟨by simp,by simp [go_sem],by simp [go_sem],by simp [go_sem],fun o=>by simp [go_sem]⟩

section
variable (LA RA HA : Option Addr) (nl lc nr rc hn hc : Nat) (lr rr : Bool)
abbrev entV : Value:=.agg #[.slice LA nl lc,.bool lr,.slice RA nr rc,.bool rr,.slice HA hn hc]
set_option maxHeartbeats 1000000 in
theorem line_c (w : World) : Calls Tryz.prog 22 #[entV LA RA HA nl lc nr rc hn hc lr rr] w fun e w'=>e = .returned (.agg #[.bool false,.slice LA nl lc,.bool lr,.slice RA nr rc,.bool rr]) ∧ Calm w w':=by
 go_enter Tryz.func22,Tryz.ntmps22
 go_wp2_with fail
 refine bodyPost_ret (v:=.agg #[.bool false,.slice LA nl lc,.bool lr,.slice RA nr rc,.bool rr]) ?_ rfl ⟨rfl,((Calm.refl w).alloc _).alloc _⟩
 rw [results_cell1 rfl]
 go_simp
set_option maxHeartbeats 1000000 in
theorem left_c (w : World) : Calls Tryz.prog 45 #[entV LA RA HA nl lc nr rc hn hc lr rr] w fun e w'=>e = .returned (.agg #[.slice LA nl lc,.bool lr,.slice HA hn hc]) ∧ Calm w w':=by
 go_enter Tryz.func45,Tryz.ntmps45
 go_wp2_with fail
 refine bodyPost_ret (v:=.agg #[.slice LA nl lc,.bool lr,.slice HA hn hc]) ?_ rfl ⟨rfl,((Calm.refl w).alloc _).alloc _⟩
 rw [results_cell1 rfl]
 go_simp
set_option maxHeartbeats 1000000 in
theorem rline_c (w : World) : Calls Tryz.prog 29 #[entV LA RA HA nl lc nr rc hn hc lr rr] w fun e w'=>e = .returned (.agg #[.bool false,.slice LA nl lc,.bool lr,.slice RA nr rc,.bool rr]) ∧ Calm w w':=by
 go_enter Tryz.func29,Tryz.ntmps29
 go_wp2_with fail
 refine bodyPost_ret (v:=.agg #[.bool false,.slice LA nl lc,.bool lr,.slice RA nr rc,.bool rr]) ?_ rfl ⟨rfl,((Calm.refl w).alloc _).alloc _⟩
 rw [results_cell1 rfl]
 go_simp
set_option maxHeartbeats 1000000 in
theorem rleft_c (w : World) : Calls Tryz.prog 59 #[entV LA RA HA nl lc nr rc hn hc lr rr] w fun e w'=>e = .returned (.agg #[.slice LA nl lc,.bool lr,.slice HA hn hc]) ∧ Calm w w':=by
 go_enter Tryz.func59,Tryz.ntmps59
 go_wp2_with fail
 refine bodyPost_ret (v:=.agg #[.slice LA nl lc,.bool lr,.slice HA hn hc]) ?_ rfl ⟨rfl,((Calm.refl w).alloc _).alloc _⟩
 rw [results_cell1 rfl]
 go_simp
end
set_option maxHeartbeats 2000000 in
theorem isEntry_c (z : NewE) (nl nr hn : Nat) (lr rr : Bool) (w : World) (h : EntA w z) (hnl : z.e.left.parts.length = nl) (hnr : z.e.right.parts.length = nr) (hhn : z.e.hs.length = hn) (hlr : z.e.left.rest = lr) (hrr : z.e.right.rest = rr) :
  Calls Tryz.prog 85 #[entV z.LA z.RA z.HA nl z.lc nr z.rc hn z.hc lr rr] w fun e w'=>e = .returned (.bool (entryOk z.e)) ∧ Calm w w':=by
 obtain ⟨w1,hw1⟩ : ∃ w1,w1 = w.alloc (.cells #[.slice z.LA nl z.lc,.bool lr,.slice z.RA nr z.rc,.bool rr,.slice z.HA hn z.hc] 43):=⟨_,rfl⟩
 have hc1 : Calm w w1:=by rw [hw1];exact (Calm.refl w).alloc _
 have hb : FiveB w1 w.heap.size (.slice z.LA nl z.lc) (.bool lr) (.slice z.RA nr z.rc) (.bool rr) (.slice z.HA hn z.hc):=by
  rw [hw1]
  exact FiveB.new w _ _ _ _ _ _
 obtain ⟨v,hv⟩ : ∃ v,ruleErr z.e.rule = v:=⟨_,rfl⟩
 obtain ⟨u,hu⟩ : ∃ u,gErr z.e.reg = u:=⟨_,rfl⟩
 have KL : Hid (∀ W,Calls Tryz.prog 22 #[entV z.LA z.RA z.HA nl z.lc nr z.rc hn z.hc lr rr] W fun e w'=>e = .returned (.agg #[.bool false,.slice z.LA nl z.lc,.bool lr,.slice z.RA nr z.rc,.bool rr]) ∧ Calm W w'):=fun W=>line_c _ _ _ _ _ _ _ _ _ _ _ W
 have KG : Hid (∀ W,Calls Tryz.prog 45 #[entV z.LA z.RA z.HA nl z.lc nr z.rc hn z.hc lr rr] W fun e w'=>e = .returned (.agg #[.slice z.LA nl z.lc,.bool lr,.slice z.HA hn z.hc]) ∧ Calm W w'):=fun W=>left_c _ _ _ _ _ _ _ _ _ _ _ W
 have KR : Hid (∀ W,Calm w1 W → Calls Tryz.prog 53 #[.agg #[.bool false,.slice z.LA nl z.lc,.bool lr,.slice z.RA nr z.rc,.bool rr]] W fun e w'=>e = .returned (.int .i64 v) ∧ Calm W w'):=fun W hW=>by
  have:=rule_c z.e.rule z.pl W (h.calm (hc1.trans hW)).rule
  unfold ruleV Ent.rule NewE.pl at this
  simp only [hnl,hnr,hlr,hrr] at this
  rw [show (⟨false,z.e.left,z.e.right⟩ : Rule) = z.e.rule from rfl,hv] at this
  exact this
 have KC : Hid (∀ W,Calm w1 W → Calls Tryz.prog 80 #[.agg #[.slice z.LA nl z.lc,.bool lr,.slice z.HA hn z.hc]] W fun e w'=>e = .returned (.int .i64 u) ∧ Calm W w'):=fun W hW=>by
  have hh:=h.calm (hc1.trans hW)
  have:=gchecku_c z.e.left z.e.hs z.LA z.lc z.HA z.hc W hh.l hh.lroom hh.lcap hh.h
  rw [hnl,hlr,hhn,show regErr z.e.left z.e.hs = u from hu] at this
  exact this
 have HE : Hid (entryOk z.e = (v == 0 && u == 0)):=by
  show _ = _
  unfold entryOk
  rw [hv,hu]
 have HW:=Lib.hid hw1
 have HC:=Lib.hid hc1
 have HB:=Lib.hid hb
 have b0:=hb.c0
 have b1:=hb.c1
 have b2:=hb.c2
 have b3:=hb.c3
 have b4:=hb.c4
 clear hw1 hc1 hb h hnl hnr hhn hlr hrr hv hu
 go_enter Tryz.func85,Tryz.ntmps85
 have hcs : ((v == 0) = true ∧ v = 0) ∨ (v == 0) = false:=by
  by_cases h0 : v = 0
  ·exact .inl ⟨by rw [h0];rfl,h0⟩
  ·exact .inr (by rw [beq_eq_false_iff_ne];exact h0)
 rcases hcs with ⟨hv0,rfl⟩ | hv0
 ·obtain ⟨ub,hub⟩ : ∃ ub,(u == 0) = ub:=⟨_,rfl⟩
  have HEe : Hid (entryOk z.e = ub):=by
   show _ = _
   rw [HE.out,hub]
   rfl
  clear hv0
  go_wp2_with (first
   |(go_at_call 22;rw [← HW.out];refine (KL.out _).mono ?_;rintro e w2 ⟨rfl,hc2⟩)
   |(go_at_call 53;refine (KR.out w2 hc2).mono ?_;rintro e w3 ⟨rfl,hc3⟩;have HC3:=Lib.hid (hc2.trans hc3);have b3:=HB.out.calm HC3.out;have d0:=b3.c0;have d1:=b3.c1;have d2:=b3.c2;have d3:=b3.c3;have d4:=b3.c4)
   |(go_at_call 45;refine (KG.out _).mono ?_;rintro e w4 ⟨rfl,hc4⟩)
   |(go_at_call 80;refine (KC.out w4 (HC3.out.trans hc4)).mono ?_;rintro e w5 ⟨rfl,hc5⟩;have HC5:=Lib.hid (HC3.out.trans (hc4.trans hc5))))
  go_ret
  exact ⟨ret_bool HEe.out.symm,HC.out.trans HC5.out⟩
 ·have HEe : Hid (entryOk z.e = false):=by
   show _ = _
   rw [HE.out,hv0]
   rfl
  go_wp2_with (first
   |(go_at_call 22;rw [← HW.out];refine (KL.out _).mono ?_;rintro e w2 ⟨rfl,hc2⟩)
   |(go_at_call 53;refine (KR.out w2 hc2).mono ?_;rintro e w3 ⟨rfl,hc3⟩;have HC3:=Lib.hid (hc2.trans hc3)))
  go_ret
  exact ⟨ret_bool HEe.out.symm,HC.out.trans HC3.out⟩
end Go.Proofs.YtnlnclefedohkaaGreatDoor
set_option linter.unusedVariables false
set_option linter.unusedSimpArgs false
namespace Go.Proofs.YtnlnclefedohkaaGreatDoor
open Go Go.RowKit Sy
structure RgB (w : World) (G : Nat) (v0 v1 v2 : Value) : Prop where
 kind : ∃ cs,w.heap[G]? = some (.cells cs 68 (0,0))
 c0 : w.cell? ⟨G,0,none⟩ = some v0
 c1 : w.cell? ⟨G,1,none⟩ = some v1
 c2 : w.cell? ⟨G,2,none⟩ = some v2
theorem RgB.lt {w : World} {G : Nat} {v0 v1 v2 : Value} (h : RgB w G v0 v1 v2) : G < w.heap.size:=by
 obtain ⟨cs,hh⟩:=h.kind
 exact heap_lt hh
theorem RgB.f {w : World} {G : Nat} {v0 v1 v2 : Value} (h : RgB w G v0 v1 v2) (o : Nat) : w.frozen? ⟨G,o,none⟩ = false:=by
 obtain ⟨cs,hh⟩:=h.kind
 exact frozen_of_row w G o cs _ hh
theorem RgB.block {w w' : World} {G : Nat} {v0 v1 v2 : Value} (h : RgB w G v0 v1 v2) (hb : w'.heap[G]? = w.heap[G]?) : RgB w' G v0 v1 v2:=by
 obtain ⟨cs,hh⟩:=h.kind
 exact ⟨⟨cs,hb.trans hh⟩,(World.cell?_of_block (a:=⟨G,0,none⟩) hb).trans h.c0,(World.cell?_of_block (a:=⟨G,1,none⟩) hb).trans h.c1,(World.cell?_of_block (a:=⟨G,2,none⟩) hb).trans h.c2⟩
theorem RgB.calm {w w' : World} {G : Nat} {v0 v1 v2 : Value} (h : RgB w G v0 v1 v2) (hc : Calm w w') : RgB w' G v0 v1 v2:=h.block (hc.block _ h.lt)
theorem RgB.new (w : World) (v0 v1 v2 : Value) : RgB (w.alloc (.cells #[v0,v1,v2] 68)) w.heap.size v0 v1 v2:=
 ⟨⟨_,heap_alloc_new w _⟩,by simp [go_sem],by simp [go_sem],by simp [go_sem]⟩
theorem RgB.put2 {w : World} {G : Nat} {v0 v1 v2 : Value} (h : RgB w G v0 v1 v2) (u : Value) : RgB (w.setCell ⟨G,2,none⟩ u) G v0 v1 u:=by
 obtain ⟨cs,hh⟩:=h.kind
 exact ⟨⟨cs.setIfInBounds 2 u,by simp [World.setCell,Array.getElem?_modify,hh]⟩,(World.cell?_setCell_other _ _ _ _ (by simp)).trans h.c0,(World.cell?_setCell_other _ _ _ _ (by simp)).trans h.c1,World.cell?_setCell_same' _ _ _ (by rw [h.c2];rfl)⟩
theorem own_readsR {w0 W : World} {A : Option Addr} {n c : Nat} {l : List NewP} (h : OwnX encP 2 40 w0 W (.slice A n c) l) (he : ∀ x ∈ l,PatA W x.A x.c x.p) (hl : l.length ≤ 16384) : PatsR W A (l.map (·.p)):=by
 obtain ⟨A',c',hv,_,_,hX⟩:=h.places he
 obtain ⟨rfl,_,_⟩ : A = A' ∧ n = l.length ∧ c = c':=by simpa using hv
 exact hX.reads hl
theorem RgB.own {w w' w0 : World} {G : Nat} {v0 v1 v2 v : Value} {l : List NewP} (h : RgB w G v0 v1 v2) (hown : OwnX encP 2 40 w0 w v l) (hg : w.grownBy w' v.ownBlock) : RgB w' G v0 v1 v2:=
 h.block (hg.block G h.lt (hown.kindne (by decide) h.kind))
theorem RgB.set3 {w : World} {G : Nat} {v0 v1 v2 : Value} (h : RgB w G v0 v1 v2) (u0 u1 u2 : Value) : RgB (((w.setCell ⟨G,0,none⟩ u0).setCell ⟨G,1,none⟩ u1).setCell ⟨G,2,none⟩ u2) G u0 u1 u2:=by
 obtain ⟨cs,hh⟩:=h.kind
 refine ⟨⟨((cs.setIfInBounds 0 u0).setIfInBounds 1 u1).setIfInBounds 2 u2,by simp [World.setCell,Array.getElem?_modify,hh]⟩,?_,?_,?_⟩
 ·rw [World.cell?_setCell_other _ _ _ _ (by simp),World.cell?_setCell_other _ _ _ _ (by simp)]
  exact World.cell?_setCell_same' _ _ _ (by rw [h.c0];rfl)
 ·rw [World.cell?_setCell_other _ _ _ _ (by simp)]
  exact World.cell?_setCell_same' _ _ _ (by rw [World.cell?_setCell_other _ _ _ _ (by simp),h.c1];rfl)
 ·exact World.cell?_setCell_same' _ _ _ (by rw [World.cell?_setCell_other _ _ _ _ (by simp),World.cell?_setCell_other _ _ _ _ (by simp),h.c2];rfl)
end Go.Proofs.YtnlnclefedohkaaGreatDoor
set_option linter.unusedVariables false
set_option linter.unusedSimpArgs false
namespace Go.Proofs.YtnlnclefedohkaaGreatDoor
open Go Go.RowKit Sy

theorem OwnX.putE {α : Type} {enc : α → List Value} {K : Nat} {T : TypeId} {w0 w : World} {v : Value} {l : List α} (h : OwnX enc K T w0 w v l) {p : Addr} (u : Value) (hge : w0.heap.size ≤ p.block) (hne : some p.block ≠ v.ownBlock) : OwnX enc K T w0 (w.setCell p u) v l:=by
 refine ⟨Below.setCell h.calm hge _,h.own.1,?_⟩
 rcases h.own.2 with h2 | ⟨g,cap,cur,hv,hg,hh,r⟩
 ·exact .inl h2
 ·refine .inr ⟨g,cap,cur,hv,hg,?_,r⟩
  rw [Deep.blk_setCell_other _ _ _ _ (fun e=>hne (by rw [← e,hv];rfl))]
  exact hh
theorem results_none {fn : Func} (h : fn.results = #[]) (tmps : Array Value) (P : Program) (w : World) : (results fn tmps).run P w = .ok (.tuple #[]) w:=by
 simp only [results,h]
 simp [Sem.run_bind,Result.andThen]
theorem EntN.set {w : World} {B : Nat} {x : NewE} (h : EntN w B x) {p : Addr} (u : Value) (hp : p.block < B) : EntN (w.setCell p u) B x:=⟨h.l.set u hp,h.r.set u hp,h.h.set u hp,h.few⟩
structure ColE (w0 w : World) (G : Nat) (v : Value) (zs : List NewE) : Prop where
 own : OwnX encE 5 43 w0 w v zs
 lo : w0.heap.size ≤ G
 kind : ∃ cs,w.heap[G]? = some (.cells cs 47 (0,0))
 c0 : w.cell? ⟨G,0,none⟩ = some v
 c1 : w.cell? ⟨G,1,none⟩ = some (.bool false)
 each : ∀ z ∈ zs,EntN w (G + 1) z
theorem ColE.lt {w0 w : World} {G : Nat} {v : Value} {zs : List NewE} (h : ColE w0 w G v zs) : G < w.heap.size:=by
 obtain ⟨cs,hh⟩:=h.kind
 exact heap_lt hh
theorem ColE.f {w0 w : World} {G : Nat} {v : Value} {zs : List NewE} (h : ColE w0 w G v zs) (o : Nat) : w.frozen? ⟨G,o,none⟩ = false:=by
 obtain ⟨cs,hh⟩:=h.kind
 exact frozen_of_row w G o cs _ hh
theorem ColE.calm {w0 w w' : World} {G : Nat} {v : Value} {zs : List NewE} (h : ColE w0 w G v zs) (hc : Calm w w') : ColE w0 w' G v zs:=
 ⟨h.own.to hc,h.lo,by obtain ⟨cs,hh⟩:=h.kind;exact ⟨cs,(hc.block _ h.lt).trans hh⟩,hc.at_ h.c0 h.lt,hc.at_ h.c1 h.lt,fun z hz=>(h.each z hz).calm hc⟩
theorem ColE.new {w0 w : World} (hc : Calm w0 w) : ColE w0 (w.alloc (.cells #[.slice none 0 0,.bool false] 47)) w.heap.size (.slice none 0 0) []:=
 ⟨OwnX.nil (hc.alloc _),hc.size,⟨_,heap_alloc_new w _⟩,by simp [go_sem],by simp [go_sem],fun z hz=>by cases hz⟩
theorem ColE.ne {w0 w : World} {G : Nat} {v : Value} {zs : List NewE} (h : ColE w0 w G v zs) : some G ≠ v.ownBlock:=h.own.kindne (by decide) h.kind
theorem ColE.add {w0 w w2 w3 : World} {G : Nat} {v v' : Value} {zs : List NewE} {z : NewE} (h : ColE w0 w G v zs) (hz : EntN w (G + 1) z) (hc : Calm w w2) (hown : OwnX encE 5 43 w0 w3 v' (zs ++ [z])) (hg : w2.grownBy w3 v.ownBlock) : ColE w0 (w3.setCell ⟨G,0,none⟩ v') G v' (zs ++ [z]):=by
 have h2:=h.calm hc
 have hb:=hg.block G h2.lt h2.ne
 obtain ⟨cs,hh⟩:=h2.kind
 have hh3 : w3.heap[G]? = some (.cells cs 47 (0,0)):=hb.trans hh
 have k0 : w3.cell? ⟨G,0,none⟩ = some v:=(World.cell?_of_block (a:=⟨G,0,none⟩) hb).trans h2.c0
 refine ⟨hown.putE v' h.lo (hown.kindne (by decide) ⟨cs,hh3⟩),h.lo,⟨cs.setIfInBounds 0 v',by simp [World.setCell,Array.getElem?_modify,hh3]⟩,World.cell?_setCell_same' _ _ _ (by rw [k0];rfl),(World.cell?_setCell_other _ _ _ _ (by simp)).trans ((World.cell?_of_block (a:=⟨G,1,none⟩) hb).trans h2.c1),fun y hy=>?_⟩
 have hy3 : EntN w3 (G + 1) y:=by
  rcases List.mem_append.1 hy with hy | hy
  ·exact (h2.each y hy).own (by decide) (by decide) h2.own.own hg
  ·rw [List.mem_singleton] at hy
   subst hy
   exact (hz.calm hc).own (by decide) (by decide) h2.own.own hg
 exact hy3.set v' (Nat.lt_succ_self _)
theorem ColE.after {w0 w w2 w3 : World} {G : Nat} {v : Value} {zs : List NewE} (h : ColE w0 w G v zs) (hc : Calm w w2) (hg : w2.grownBy w3 v.ownBlock) : w3.cell? ⟨G,0,none⟩ = some v ∧ w3.frozen? ⟨G,0,none⟩ = false:=by
 have h2:=h.calm hc
 have hb:=hg.block G h2.lt h2.ne
 exact ⟨(World.cell?_of_block (a:=⟨G,0,none⟩) hb).trans h2.c0,(World.frozen?_of_block (a:=⟨G,0,none⟩) hb).trans (h2.f 0)⟩
theorem ColE.shape {w0 w : World} {G : Nat} {v : Value} {zs : List NewE} (h : ColE w0 w G v zs) : ∃ A c,v = .slice A zs.length c ∧ zs.length ≤ c ∧ c ≤ 9223372036854775807 ∧ ReadX encE 5 w A zs:=by
 rcases h.own.row encE_len with ⟨rfl,rfl⟩ | ⟨g,c,rfl,h1,h2,_,hr⟩
 ·exact ⟨none,0,rfl,Nat.le_refl _,by omega,fun h=>absurd rfl h⟩
 ·exact ⟨_,c,rfl,h1,h2,fun _=>⟨g,0,rfl,hr.lt,fun k x hk i u hu=>hr.cell k x hk i u hu⟩⟩
def FrE (w w' : World) (G : Nat) (v : Value) : Prop:=∀ b,b < w.heap.size → b ≠ G → some b ≠ v.ownBlock → w'.heap[b]? = w.heap[b]?
theorem FrE.of {w w2 w3 : World} {G : Nat} {v u : Value} (hc : Calm w w2) (hg : w2.grownBy w3 v.ownBlock) : FrE w (w3.setCell ⟨G,0,none⟩ u) G v:=fun b hb hbG hbv=>by
 have h1:=hg.block b (Nat.lt_of_lt_of_le hb hc.size) hbv
 rw [Deep.blk_setCell_other _ _ _ _ (fun e=>hbG (by rw [e]))]
 exact h1.trans (hc.block b hb)
set_option maxHeartbeats 4000000 in
theorem addE_c (w0 w : World) (G : Nat) (v : Value) (zs : List NewE) (z : NewE) (nl nr hn : Nat) (lr rr : Bool) (h : ColE w0 w G v zs) (hz : EntN w (G + 1) z) (hl : zs.length < 32) (hnl : z.e.left.parts.length = nl) (hnr : z.e.right.parts.length = nr) (hhn : z.e.hs.length = hn) (hlr : z.e.left.rest = lr) (hrr : z.e.right.rest = rr) :
  Calls Tryz.prog 55 #[.pointer (some ⟨G,0,none⟩),entV z.LA z.RA z.HA nl z.lc nr z.rc hn z.hc lr rr] w fun e w'=>e = .returned (.tuple #[]) ∧ ∃ v',ColE w0 w' G v' (zs ++ [z]) ∧ FrE w w' G v:=by
 obtain ⟨A,c,hv,_,_,_⟩:=h.shape
 obtain ⟨Z,hZ⟩ : ∃ Z,zs.length = Z:=⟨_,rfl⟩
 rw [hZ] at hl hv
 subst hv
 have HH:=Lib.hid h
 have HZ:=Lib.hid hz
 have HN:=Lib.hid (And.intro hnl (And.intro hnr (And.intro hhn (And.intro hlr hrr))))
 have HL:=Lib.hid hZ
 obtain ⟨w1,hw1⟩ : ∃ w1,w1 = w.alloc (.cells #[.slice z.LA nl z.lc,.bool lr,.slice z.RA nr z.rc,.bool rr,.slice z.HA hn z.hc] 43):=⟨_,rfl⟩
 obtain ⟨B,hB⟩ : ∃ B,w.heap.size = B:=⟨_,rfl⟩
 have hc1 : Calm w w1:=by rw [hw1];exact (Calm.refl _).alloc _
 have hb1 : FiveB w1 B (.slice z.LA nl z.lc) (.bool lr) (.slice z.RA nr z.rc) (.bool rr) (.slice z.HA hn z.hc):=by
  rw [hw1,← hB]
  exact FiveB.new w _ _ _ _ _ _
 have hzw1 : EntN w1 (G + 1) z:=hz.calm hc1
 have HZ1:=Lib.hid hzw1
 have hh1:=h.calm hc1
 have kw0:=h.c0
 have hGw:=h.lt
 have k0:=hh1.c0
 have k1:=hh1.c1
 have f0:=hh1.f 0
 have b0:=hb1.c0
 have b1:=hb1.c1
 have b2:=hb1.c2
 have b3:=hb1.c3
 have b4:=hb1.c4
 have HW:=Lib.hid hw1
 have HBs:=Lib.hid hB
 have HC:=Lib.hid hc1
 have HB1:=Lib.hid hb1
 have HH1:=Lib.hid hh1
 clear h hz hzw1 hnl hnr hhn hlr hrr hZ hw1 hc1 hb1 hh1 hB
 have hne : ((Z : Int) == 32) = false:=by
  rw [beq_eq_false_iff_ne]
  omega
 have HK : Hid (∀ W,Calm w1 W → W.cell? ⟨G,0,none⟩ = some (.slice A Z c) ∧ W.cell? ⟨B,0,none⟩ = some (.slice z.LA nl z.lc) ∧ W.cell? ⟨B,1,none⟩ = some (.bool lr) ∧ W.cell? ⟨B,2,none⟩ = some (.slice z.RA nr z.rc) ∧ W.cell? ⟨B,3,none⟩ = some (.bool rr) ∧ W.cell? ⟨B,4,none⟩ = some (.slice z.HA hn z.hc)):=fun W hW=>
  have hb:=HB1.out.calm hW
  ⟨(HH1.out.calm hW).c0,hb.c0,hb.c1,hb.c2,hb.c3,hb.c4⟩
 go_enter Tryz.func55,Tryz.ntmps55
 go_wp2_with fail
 rw [← HW.out,HBs.out]
 have HSF : Hid (∀ W W' : World,Calm w1 W → W.grownBy W' (Value.slice A Z c).ownBlock → W'.cell? ⟨G,0,none⟩ = some (.slice A Z c) ∧ W'.frozen? ⟨G,0,none⟩ = false):=fun W W' hW hg=>HH1.out.after hW hg
 have HKB : Hid (∀ W W' : World,Calm w1 W → W.grownBy W' (Value.slice A Z c).ownBlock → W'.cell? ⟨B,0,none⟩ = some (.slice z.LA nl z.lc) ∧ W'.cell? ⟨B,1,none⟩ = some (.bool lr) ∧ W'.cell? ⟨B,2,none⟩ = some (.slice z.RA nr z.rc) ∧ W'.cell? ⟨B,3,none⟩ = some (.bool rr) ∧ W'.cell? ⟨B,4,none⟩ = some (.slice z.HA hn z.hc)):=fun W W' hW hg=>by
  have hb:=HB1.out.calm hW
  have hk:=hg.block B hb.lt (fun e=>by
   have h1:=HH.out.own.blk_lt e
   have h2:=HBs.out
   omega)
  exact ⟨(World.cell?_of_block (a:=⟨B,0,none⟩) hk).trans hb.c0,(World.cell?_of_block (a:=⟨B,1,none⟩) hk).trans hb.c1,(World.cell?_of_block (a:=⟨B,2,none⟩) hk).trans hb.c2,(World.cell?_of_block (a:=⟨B,3,none⟩) hk).trans hb.c3,(World.cell?_of_block (a:=⟨B,4,none⟩) hk).trans hb.c4⟩
 have hG1:=HH1.out.lt
 have kd0 : w1.drew.cell? ⟨G,0,none⟩ = some (.slice A Z c):=(HK.out _ (Below.drew (Calm.refl _))).1
 have hBG : ¬ B = G:=by
  have h1:=HH.out.lt
  have h2:=HBs.out
  omega
 have hGB : ¬ G = B:=fun e=>hBG e.symm
 have HSet : Hid (∀ W W' : World,∀ u,Calm w1 W → W.grownBy W' (Value.slice A Z c).ownBlock → (W'.setCell ⟨G,0,none⟩ u).cell? ⟨B,0,none⟩ = some (.slice z.LA nl z.lc) ∧ (W'.setCell ⟨G,0,none⟩ u).cell? ⟨B,1,none⟩ = some (.bool lr) ∧ (W'.setCell ⟨G,0,none⟩ u).cell? ⟨B,2,none⟩ = some (.slice z.RA nr z.rc) ∧ (W'.setCell ⟨G,0,none⟩ u).cell? ⟨B,3,none⟩ = some (.bool rr) ∧ (W'.setCell ⟨G,0,none⟩ u).cell? ⟨B,4,none⟩ = some (.slice z.HA hn z.hc)):=fun W W' u hW hg=>by
  have h:=HKB.out W W' hW hg
  have hk : (W'.setCell ⟨G,0,none⟩ u).heap[B]? = W'.heap[B]?:=Deep.blk_setCell_other _ _ _ _ hBG
  exact ⟨(World.cell?_of_block (a:=⟨B,0,none⟩) hk).trans h.1,(World.cell?_of_block (a:=⟨B,1,none⟩) hk).trans h.2.1,(World.cell?_of_block (a:=⟨B,2,none⟩) hk).trans h.2.2.1,(World.cell?_of_block (a:=⟨B,3,none⟩) hk).trans h.2.2.2.1,(World.cell?_of_block (a:=⟨B,4,none⟩) hk).trans h.2.2.2.2⟩
 go_region_law ((refine step_append_xs (enc:=encE) (K:=5) (T:=43) Tryz.underlying22 info_ent rfl (by decide) (by decide) encE_len encE_one rfl (.tmp 17) (.tmp 19) rfl w0 (.slice A Z c) zs [z] (by simp [Act.eval,Act.put]) (HH1.out.own.to (by first | exact (Calm.refl _).alloc _ | exact (Below.drew (Calm.refl _)).alloc _ | exact Below.drew ((Calm.refl _).alloc _) | exact ((Calm.refl _).drewN _).alloc _ | exact ((Calm.refl _).alloc _).drewN _)) _ 1 1 rfl rfl (read_newE z rfl HN.out.1 HN.out.2.2.2.1 HN.out.2.1 HN.out.2.2.2.2 HN.out.2.2.1) (by rw [HL.out];omega) ?_;intro v9 w9 hown9 hg9;have hs9:=HSF.out _ _ (by first | exact (Calm.refl _).alloc _ | exact (Below.drew (Calm.refl _)).alloc _ | exact Below.drew ((Calm.refl _).alloc _) | exact ((Calm.refl _).drewN _).alloc _ | exact ((Calm.refl _).alloc _).drewN _) hg9;have k9:=hs9.1;have f9:=hs9.2;obtain ⟨A9,n9,c9,rfl⟩:=hown9.shape))
 all_goals
  first
   |have HD : Hid (ColE w0 (w9.setCell ⟨G,0,none⟩ (.slice A9 n9 c9)) G (.slice A9 n9 c9) (zs ++ [z]) ∧ FrE w (w9.setCell ⟨G,0,none⟩ (.slice A9 n9 c9)) G (.slice A Z c)):=⟨HH1.out.add HZ1.out ((Below.drew (Calm.refl _)).alloc _) hown9 hg9,FrE.of (HC.out.trans ((Below.drew (Calm.refl _)).alloc _)) hg9⟩
   |have HD : Hid (ColE w0 (w9.setCell ⟨G,0,none⟩ (.slice A9 n9 c9)) G (.slice A9 n9 c9) (zs ++ [z]) ∧ FrE w (w9.setCell ⟨G,0,none⟩ (.slice A9 n9 c9)) G (.slice A Z c)):=⟨HH1.out.add HZ1.out ((Calm.refl _).alloc _) hown9 hg9,FrE.of (HC.out.trans ((Calm.refl _).alloc _)) hg9⟩
   |have HD : Hid (ColE w0 (w9.setCell ⟨G,0,none⟩ (.slice A9 n9 c9)) G (.slice A9 n9 c9) (zs ++ [z]) ∧ FrE w (w9.setCell ⟨G,0,none⟩ (.slice A9 n9 c9)) G (.slice A Z c)):=⟨HH1.out.add HZ1.out (Below.drew ((Calm.refl _).alloc _)) hown9 hg9,FrE.of (HC.out.trans (Below.drew ((Calm.refl _).alloc _))) hg9⟩
   |have HD : Hid (ColE w0 (w9.setCell ⟨G,0,none⟩ (.slice A9 n9 c9)) G (.slice A9 n9 c9) (zs ++ [z]) ∧ FrE w (w9.setCell ⟨G,0,none⟩ (.slice A9 n9 c9)) G (.slice A Z c)):=⟨HH1.out.add HZ1.out (((Calm.refl _).drewN _).alloc _) hown9 hg9,FrE.of (HC.out.trans (((Calm.refl _).drewN _).alloc _)) hg9⟩
   |have HD : Hid (ColE w0 (w9.setCell ⟨G,0,none⟩ (.slice A9 n9 c9)) G (.slice A9 n9 c9) (zs ++ [z]) ∧ FrE w (w9.setCell ⟨G,0,none⟩ (.slice A9 n9 c9)) G (.slice A Z c)):=⟨HH1.out.add HZ1.out (((Calm.refl _).alloc _).drewN _) hown9 hg9,FrE.of (HC.out.trans (((Calm.refl _).alloc _).drewN _)) hg9⟩
  go_wp2_with fail
  exact bodyPost_end (v:=.tuple #[]) (results_none rfl _ _ _) rfl ⟨rfl,_,HD.out.1,HD.out.2⟩
end Go.Proofs.YtnlnclefedohkaaGreatDoor
