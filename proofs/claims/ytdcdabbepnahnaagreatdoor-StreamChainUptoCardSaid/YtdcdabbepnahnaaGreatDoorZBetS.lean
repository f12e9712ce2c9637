/- Walk: stream.Between. -/
import Derived.Deep.RegionHeld3
import Derived.Deep.RegionLaw
import Derived.Test.YtdcdabbepnahnaaGreatDoorZCopyP
import Derived.Test.YtdcdabbepnahnaaGreatDoorZEntM
import Derived.Test.YtdcdabbepnahnaaGreatDoorZStepApp
import Derived.Test.YtdcdabbepnahnaaGreatDoorZFwd
import Derived.Test.YtdcdabbepnahnaaGreatDoorZPcsI
import Derived.Test.YtdcdabbepnahnaaGreatDoorZNarRW
import Derived.Test.YtdcdabbepnahnaaGreatDoorZRightW
import Derived.Test.YtdcdabbepnahnaaGreatDoorZPcsW
import Derived.Test.YtdcdabbepnahnaaGreatDoorZOutM
set_option linter.unusedVariables false
set_option linter.unusedSimpArgs false
namespace Go.Proofs.YtdcdabbepnahnaaGreatDoor
open Go Go.RowKit Sy

def TurnEnd (r : Rule) (B : Nat) (e : Ending) (w' : World) : Prop:=∃ a,e = .returned (ruleV a r.turn) ∧ RuleN w' B a r.turn
structure BoxT (w1 : World) (B : Nat) (a : Pl) (nl nr : Nat) (lr rr ex : Bool) : Prop where
 size : w1.heap.size = B + 2
 c0 : w1.cell? ⟨B,0,none⟩ = some (.bool ex)
 c1 : w1.cell? ⟨B,1,none⟩ = some (.slice a.AL nl a.cl)
 c2 : w1.cell? ⟨B,2,none⟩ = some (.bool lr)
 c3 : w1.cell? ⟨B,3,none⟩ = some (.slice a.AR nr a.cr)
 c4 : w1.cell? ⟨B,4,none⟩ = some (.bool rr)
 d0 : w1.cell? ⟨B + 1,0,none⟩ = some (.bool false)
 d1 : w1.cell? ⟨B + 1,1,none⟩ = some (.slice none 0 0)
 d2 : w1.cell? ⟨B + 1,2,none⟩ = some (.bool false)
 d3 : w1.cell? ⟨B + 1,3,none⟩ = some (.slice none 0 0)
 d4 : w1.cell? ⟨B + 1,4,none⟩ = some (.bool false)
 f : ∀ o,w1.frozen? ⟨B + 1,o,none⟩ = false
theorem BoxT.S {w1 w2 : World} {B : Nat} {a : Pl} {nl nr : Nat} {lr rr ex : Bool} (h : BoxT w1 B a nl nr lr rr ex) (hc : Below (B + 1) w1 w2) : Below (B + 1) w1 w2 ∧ w2.cell? ⟨B,0,none⟩ = some (.bool ex) ∧ w2.cell? ⟨B,1,none⟩ = some (.slice a.AL nl a.cl) ∧ w2.cell? ⟨B,2,none⟩ = some (.bool lr) ∧ w2.cell? ⟨B,3,none⟩ = some (.slice a.AR nr a.cr) ∧ w2.cell? ⟨B,4,none⟩ = some (.bool rr):=
 ⟨hc,(hc.cell (p:=⟨B,0,none⟩) (Nat.lt_succ_self B)).trans h.c0,(hc.cell (p:=⟨B,1,none⟩) (Nat.lt_succ_self B)).trans h.c1,(hc.cell (p:=⟨B,2,none⟩) (Nat.lt_succ_self B)).trans h.c2,(hc.cell (p:=⟨B,3,none⟩) (Nat.lt_succ_self B)).trans h.c3,(hc.cell (p:=⟨B,4,none⟩) (Nat.lt_succ_self B)).trans h.c4⟩
theorem BoxT.low {w1 w2 : World} {B : Nat} {a : Pl} {nl nr : Nat} {lr rr ex : Bool} (h : BoxT w1 B a nl nr lr rr ex) (hc : Calm w1 w2) : Below (B + 1) w1 w2:=hc.mono (by rw [h.size];omega)
structure RoomT (w2 : World) (B : Nat) : Prop where
 d0 : w2.cell? ⟨B + 1,0,none⟩ = some (.bool false)
 d1 : w2.cell? ⟨B + 1,1,none⟩ = some (.slice none 0 0)
 d2 : w2.cell? ⟨B + 1,2,none⟩ = some (.bool false)
 d3 : w2.cell? ⟨B + 1,3,none⟩ = some (.slice none 0 0)
 d4 : w2.cell? ⟨B + 1,4,none⟩ = some (.bool false)
 f : ∀ o,w2.frozen? ⟨B + 1,o,none⟩ = false
theorem BoxT.room {w1 w2 : World} {B : Nat} {a : Pl} {nl nr : Nat} {lr rr ex : Bool} (h : BoxT w1 B a nl nr lr rr ex) (hc : Calm w1 w2) : RoomT w2 B:=by
 have h1 : B + 1 < w1.heap.size:=by rw [h.size];omega
 exact ⟨hc.at_ h.d0 h1,hc.at_ h.d1 h1,hc.at_ h.d2 h1,hc.at_ h.d3 h1,hc.at_ h.d4 h1,fun o=>(hc.frozen (p:=⟨B + 1,o,none⟩) h1).trans (h.f o)⟩
theorem NewS.setT {w : World} {B : Nat} {A : Option Addr} {c : Nat} {ls : List Str} (h : NewS w (B + 2) A c ls) (u0 u1 u2 u3 u4 : Value) : NewS (((((w.setCell ⟨B + 1,0,none⟩ u0).setCell ⟨B + 1,1,none⟩ u1).setCell ⟨B + 1,2,none⟩ u2).setCell ⟨B + 1,3,none⟩ u3).setCell ⟨B + 1,4,none⟩ u4) B A c ls:=
 (((((h.set (p:=⟨B + 1,0,none⟩) u0 (Nat.lt_succ_self _)).set (p:=⟨B + 1,1,none⟩) u1 (Nat.lt_succ_self _)).set (p:=⟨B + 1,2,none⟩) u2 (Nat.lt_succ_self _)).set (p:=⟨B + 1,3,none⟩) u3 (Nat.lt_succ_self _)).set (p:=⟨B + 1,4,none⟩) u4 (Nat.lt_succ_self _)).mono (by omega)
end Go.Proofs.YtdcdabbepnahnaaGreatDoor
set_option linter.unusedVariables false
set_option linter.unusedSimpArgs false
namespace Go.Proofs.YtdcdabbepnahnaaGreatDoor
open Go Go.RowKit Sy

end Go.Proofs.YtdcdabbepnahnaaGreatDoor
set_option linter.unusedVariables false
set_option linter.unusedSimpArgs false
namespace Go.Proofs.YtdcdabbepnahnaaGreatDoor
open Go Go.RowKit Sy

end Go.Proofs.YtdcdabbepnahnaaGreatDoor
set_option linter.unusedVariables false
set_option linter.unusedSimpArgs false
namespace Go.Proofs.YtdcdabbepnahnaaGreatDoor
open Go Go.RowKit Sy

end Go.Proofs.YtdcdabbepnahnaaGreatDoor
set_option linter.unusedVariables false
set_option linter.unusedSimpArgs false
namespace Go.Proofs.YtdcdabbepnahnaaGreatDoor
open Go Go.RowKit Sy

end Go.Proofs.YtdcdabbepnahnaaGreatDoor
set_option linter.unusedVariables false
set_option linter.unusedSimpArgs false
namespace Go.Proofs.YtdcdabbepnahnaaGreatDoor
open Go Go.RowKit Sy

end Go.Proofs.YtdcdabbepnahnaaGreatDoor
set_option linter.unusedVariables false
set_option linter.unusedSimpArgs false
namespace Go.Proofs.YtdcdabbepnahnaaGreatDoor
open Go Go.RowKit Sy

end Go.Proofs.YtdcdabbepnahnaaGreatDoor
set_option linter.unusedVariables false
set_option linter.unusedSimpArgs false
namespace Go.Proofs.YtdcdabbepnahnaaGreatDoor
open Go Go.RowKit Sy

theorem copy_v (p : Pat) (A : Option Addr) (n c : Nat) (re : Bool) (w : World) (hr : StrsU w A p.parts) (hn : p.parts.length = n) (hre : p.rest = re) :
  Calls Tryz.prog 82 #[.agg #[.slice A n c,.bool re]] w fun e w'=>(∃ A2 c2,e = .returned (.agg #[.slice A2 n c2,.bool re]) ∧ NewS w' w.heap.size A2 c2 p.parts) ∧ Calm w w':=by
 subst hn hre
 exact copy_c p A c w hr

set_option maxHeartbeats 8000000 in
theorem turn_c (r : Rule) (a : Pl) (w : World) (hr : RuleU w a r) :
  Calls Tryz.prog 92 #[ruleV a r] w fun e w'=>TurnEnd r w.heap.size e w' ∧ Calm w w':=by
 obtain ⟨nl,hnl⟩ : ∃ nl,r.left.parts.length = nl:=⟨_,rfl⟩
 obtain ⟨nr,hnr⟩ : ∃ nr,r.right.parts.length = nr:=⟨_,rfl⟩
 obtain ⟨lr,hlr⟩ : ∃ lr,r.left.rest = lr:=⟨_,rfl⟩
 obtain ⟨rr,hrr⟩ : ∃ rr,r.right.rest = rr:=⟨_,rfl⟩
 obtain ⟨ex,hex⟩ : ∃ ex,r.excl = ex:=⟨_,rfl⟩
 obtain ⟨w1,hw1⟩ : ∃ w1,w1 = (w.alloc (.cells #[.bool ex,.slice a.AL nl a.cl,.bool lr,.slice a.AR nr a.cr,.bool rr] 69)).alloc (.cells #[.bool false,.slice none 0 0,.bool false,.slice none 0 0,.bool false] 69):=⟨_,rfl⟩
 have hc1 : Calm w w1:=by rw [hw1];exact ((Calm.refl w).alloc _).alloc _
 have hbox : BoxT w1 w.heap.size a nl nr lr rr ex:=by
  rw [hw1]
  exact ⟨by simp,by simp,by simp,by simp,by simp,by simp,by simp,by simp,by simp,by simp,by simp,fun o=>by simp⟩
 have KR : Hid (∀ W,Calm w1 W → Calls Tryz.prog 82 #[.agg #[.slice a.AR nr a.cr,.bool rr]] W fun e w'=>(∃ A2 c2,e = .returned (.agg #[.slice A2 nr c2,.bool rr]) ∧ NewS w' W.heap.size A2 c2 r.right.parts) ∧ Calm W w'):=fun W hW=>copy_v r.right a.AR nr a.cr rr W ((hr.calm hc1).calm hW).rr hnr hrr
 have KL : Hid (∀ W,Calm w1 W → Calls Tryz.prog 82 #[.agg #[.slice a.AL nl a.cl,.bool lr]] W fun e w'=>(∃ A2 c2,e = .returned (.agg #[.slice A2 nl c2,.bool lr]) ∧ NewS w' W.heap.size A2 c2 r.left.parts) ∧ Calm W w'):=fun W hW=>copy_v r.left a.AL nl a.cl lr W ((hr.calm hc1).calm hW).lr hnl hlr
 unfold ruleV
 rw [hnl,hnr,hlr,hrr,hex]
 have HW:=Lib.hid hw1
 have HC:=Lib.hid hc1
 have HB:=Lib.hid hbox
 have HN:=Lib.hid (And.intro hnl (And.intro hnr (And.intro hlr (And.intro hrr hex))))
 clear hw1 hc1 hbox hr hnl hnr hlr hrr hex
 obtain ⟨AL,cl,AR,cr⟩:=a
 simp only at KR KL ⊢
 go_enter Tryz.func92,Tryz.ntmps92
 go_wp2
 rw [← HW.out]
 go_region_held3 (fun w'=>Below (w.heap.size + 1) w1 w' ∧ w'.cell? ⟨w.heap.size,0,none⟩ = some (.bool ex) ∧ w'.cell? ⟨w.heap.size,1,none⟩ = some (.slice AL nl cl) ∧ w'.cell? ⟨w.heap.size,2,none⟩ = some (.bool lr) ∧ w'.cell? ⟨w.heap.size,3,none⟩ = some (.slice AR nr cr) ∧ w'.cell? ⟨w.heap.size,4,none⟩ = some (.bool rr))
  (first
   |exact HB.out.S (Below.drew (Below.refl _ _))
   |exact HB.out.S (HB.out.low hcx)
   |exact HB.out.S (HB.out.low hcy)
   |exact HB.out.S (Below.setCell (Below.setCell (Below.setCell (Below.setCell (Below.setCell (HB.out.low hcy) (Nat.le_refl _) _) (Nat.le_refl _) _) (Nat.le_refl _) _) (Nat.le_refl _) _) (Nat.le_refl _) _)
   |go_keep)
  (first
   |(go_at_call_of 82 (Value.slice AR nr cr);refine (KR.out _ (Below.drew (Calm.refl _))).mono ?_;rintro e w2 ⟨⟨A2,c2,rfl,hns2⟩,hc2⟩;have hcx : Calm w1 w2:=Calm.trans (Below.drew (Calm.refl _)) hc2)
   |(go_at_call_of 82 (Value.slice AL nl cl);refine (KL.out _ hcx).mono ?_;rintro e w3 ⟨⟨A3,c3,rfl,hns3⟩,hc3⟩;have hcy : Calm w1 w3:=hcx.trans hc3;have rm:=HB.out.room hcy;have d0:=rm.d0;have d1:=rm.d1;have d2:=rm.d2;have d3:=rm.d3;have d4:=rm.d4;have f0:=rm.f 0;have f1:=rm.f 1;have f2:=rm.f 2;have f3:=rm.f 3;have f4:=rm.f 4;clear rm))
 all_goals
  have hA : NewS w3 (w.heap.size + 2) A2 c2 r.right.parts:=(hns2.calm hc3).mono (by show w.heap.size + 2 ≤ w1.heap.size;rw [HB.out.size];exact Nat.le_refl _)
  have hB : NewS w3 (w.heap.size + 2) A3 c3 r.left.parts:=hns3.mono (by have:=hcx.size;rw [HB.out.size] at this;exact this)
  have hA5:=hA.setT (.bool ex) (.slice A2 nr c2) (.bool rr) (.slice A3 nl c3) (.bool lr)
  have hB5:=hB.setT (.bool ex) (.slice A2 nr c2) (.bool rr) (.slice A3 nl c3) (.bool lr)
  have hc4 : Calm w (((((w3.setCell ⟨w.heap.size + 1,0,none⟩ (.bool ex)).setCell ⟨w.heap.size + 1,1,none⟩ (.slice A2 nr c2)).setCell ⟨w.heap.size + 1,2,none⟩ (.bool rr)).setCell ⟨w.heap.size + 1,3,none⟩ (.slice A3 nl c3)).setCell ⟨w.heap.size + 1,4,none⟩ (.bool lr)):=
   Below.setCell (Below.setCell (Below.setCell (Below.setCell (Below.setCell (HC.out.trans hcy) (by show w.heap.size ≤ w.heap.size + 1;omega) _) (by show w.heap.size ≤ w.heap.size + 1;omega) _) (by show w.heap.size ≤ w.heap.size + 1;omega) _) (by show w.heap.size ≤ w.heap.size + 1;omega) _) (by show w.heap.size ≤ w.heap.size + 1;omega) _
  clear hA hB hns2 hns3 hcx hcy hc2 hc3 KR KL
  go_wp2
  refine bodyPost_ret (v:=.agg #[.bool ex,.slice A2 nr c2,.bool rr,.slice A3 nl c3,.bool lr]) ?_ rfl ⟨⟨⟨A2,c2,A3,c3⟩,by rw [← HN.out.1,← HN.out.2.1,← HN.out.2.2.1,← HN.out.2.2.2.1,← HN.out.2.2.2.2];rfl,⟨hA5,hB5⟩⟩,hc4⟩
  rw [results_cell1 rfl]
  go_simp

end Go.Proofs.YtdcdabbepnahnaaGreatDoor
set_option linter.unusedVariables false
set_option linter.unusedSimpArgs false
namespace Go.Proofs.YtdcdabbepnahnaaGreatDoor
open Go Go.RowKit Sy

theorem narR_turn {r : Rule} (hr : ruleErr r = 0) (hx : r.excl = false) (p : Pat) : narR r.turn p = ((narL r p).1.map Rule.turn,(narL r p).2):=by
 have h0 : ¬ ruleErr r.turn ≠ 0:=by
  have : ruleErr r.turn = 0:=ruleErr_twin.2 (ruleErr_twin.1 hr).turn
  simpa using this
 have e : (⟨false,r.turn.right,r.turn.left⟩ : Rule) = r:=by
  rcases r with ⟨x,l,q⟩
  obtain rfl : x = false:=hx
  rfl
 unfold narR
 rw [if_neg h0,e]
theorem PatsN.set5 {w : World} {B b : Nat} {A : Option Addr} {c : Nat} {ps : List Pat} (h : PatsN w B A c ps) (hb : b < B) (u0 u1 u2 u3 u4 : Value) : PatsN (Go.Proofs.YtdcdabbepnahnaaGreatDoor.set5 w b u0 u1 u2 u3 u4) B A c ps:=
 ((((h.set (p:=⟨b,0,none⟩) u0 hb).set (p:=⟨b,1,none⟩) u1 hb).set (p:=⟨b,2,none⟩) u2 hb).set (p:=⟨b,3,none⟩) u3 hb).set (p:=⟨b,4,none⟩) u4 hb
theorem SmallN.set5 {w : World} {B b : Nat} {x : NewP} (h : SmallN w B x) (hb : b < B) (u0 u1 u2 u3 u4 : Value) : SmallN (Go.Proofs.YtdcdabbepnahnaaGreatDoor.set5 w b u0 u1 u2 u3 u4) B x:=⟨h.new.set5 hb u0 u1 u2 u3 u4,h.few,h.each⟩
theorem EntN.set5 {w : World} {B b : Nat} {x : NewE} (h : EntN w B x) (hb : b < B) (u0 u1 u2 u3 u4 : Value) : EntN (Go.Proofs.YtdcdabbepnahnaaGreatDoor.set5 w b u0 u1 u2 u3 u4) B x:=⟨h.l.set5 hb u0 u1 u2 u3 u4,h.r.set5 hb u0 u1 u2 u3 u4,h.h.set5 hb u0 u1 u2 u3 u4,h.few⟩
def EntyEnd (x : Option Ent) (B : Nat) (e : Ending) (w' : World) : Prop:=
 (x = none ∧ e = .returned (.tuple #[.agg #[.slice none 0 0,.bool false,.slice none 0 0,.bool false,.slice none 0 0],.int .i64 80])) ∨
 (∃ y : NewE,x = some y.e ∧ e = .returned (.tuple #[.agg (encE y).toArray,.int .i64 0]) ∧ EntN w' B y)
abbrev zero5e : List Value:=[.slice none 0 0,.bool false,.slice none 0 0,.bool false,.slice none 0 0]
theorem smallR_of {p : Pc} (h : PcOk p) (hz : PcZ p) : SmallR p.line:=by
 have tw:=ruleErr_twin.1 h.r
 have hl : LetP 40 p.line.left:=by rw [h.lb];exact hz.b
 exact ⟨by have:=pat_few tw.lp;omega,fun y hy=>by have:=hl y hy;omega,by have:=pat_few tw.rp;omega,fun y hy=>by have:=hz.r.right hl y hy;omega⟩

set_option maxRecDepth 100000 in
set_option maxHeartbeats 16000000 in
theorem entry_c (z : NewC) (gb gh l r : Nat) (gr ex lr rr : Bool) (pk : Int) (w : World) (hu : PcA w z) (hok : PcOk z.p) (hz : PcZ z.p) (hgh : z.p.region.hs.length = gh)
  (hz1 : z.p.line.left.parts.length = l ∧ z.p.line.right.parts.length = r ∧ z.p.line.left.rest = lr ∧ z.p.line.right.rest = rr ∧ z.p.line.excl = ex) :
  Calls Tryz.prog 54 #[.agg #[.slice z.A gb z.c,.bool gr,.slice z.HA gh z.hc,.int .i64 pk,.bool ex,.slice z.a.AL l z.a.cl,.bool lr,.slice z.a.AR r z.a.cr,.bool rr]] w fun e w'=>EntyEnd (entOfP z.p) w.heap.size e w' ∧ Calm w w':=by
 obtain ⟨w1,hw1⟩ : ∃ w1,w1 = (w.alloc (.cells #[.slice z.A gb z.c,.bool gr,.slice z.HA gh z.hc,.int .i64 pk,.bool ex,.slice z.a.AL l z.a.cl,.bool lr,.slice z.a.AR r z.a.cr,.bool rr] 95)).alloc (.cells #[.slice none 0 0,.bool false,.slice none 0 0,.bool false,.slice none 0 0] 73):=⟨_,rfl⟩
 have hc1 : Calm w w1:=by rw [hw1];exact ((Calm.refl w).alloc _).alloc _
 obtain ⟨P0,e0⟩ : ∃ P0,w.heap.size = P0:=⟨_,rfl⟩
 obtain ⟨P1,e1⟩ : ∃ P1,P0 + 1 = P1:=⟨_,rfl⟩
 have hb0 : CellsB w1 P0 [.slice z.A gb z.c,.bool gr,.slice z.HA gh z.hc,.int .i64 pk,.bool ex,.slice z.a.AL l z.a.cl,.bool lr,.slice z.a.AR r z.a.cr,.bool rr]:=by
  rw [hw1,← e0]
  exact (CellsB.new w _ _).calm ((Calm.refl _).alloc _)
 have hb1 : CellsB w1 P1 zero5e:=by
  rw [hw1,← e1,← e0]
  have:=CellsB.new (w.alloc (.cells #[.slice z.A gb z.c,.bool gr,.slice z.HA gh z.hc,.int .i64 pk,.bool ex,.slice z.a.AL l z.a.cl,.bool lr,.slice z.a.AR r z.a.cr,.bool rr] 95)) #[.slice none 0 0,.bool false,.slice none 0 0,.bool false,.slice none 0 0] 73
  rwa [World.size_alloc] at this
 have hsr:=smallR_of hok hz
 have KT : Hid (Calls Tryz.prog 92 #[.agg #[.bool ex,.slice z.a.AL l z.a.cl,.bool lr,.slice z.a.AR r z.a.cr,.bool rr]] w1 fun e w'=>(∃ a : Pl,e = .returned (.agg #[.bool ex,.slice a.AL r a.cl,.bool rr,.slice a.AR l a.cr,.bool lr]) ∧ RuleN w' w1.heap.size a z.p.line.turn) ∧ Calm w1 w'):=by
  have:=turn_c z.p.line z.a w1 (hu.r.calm hc1)
  unfold ruleV at this
  rw [hz1.1,hz1.2.1,hz1.2.2.1,hz1.2.2.2.1,hz1.2.2.2.2] at this
  refine this.mono ?_
  rintro e w' ⟨⟨a,he,hN⟩,hc⟩
  refine ⟨⟨a,?_,hN⟩,hc⟩
  rw [he]
  unfold ruleV
  rw [show z.p.line.turn.left.parts.length = r from hz1.2.1,show z.p.line.turn.right.parts.length = l from hz1.1,show z.p.line.turn.left.rest = rr from hz1.2.2.2.1,show z.p.line.turn.right.rest = lr from hz1.2.2.1,show z.p.line.turn.excl = ex from hz1.2.2.2.2]
 have KN : Hid (∀ (a : Pl) (p : Pat) (Ak : Option Addr) (pn ck : Nat) (pr : Bool) (W : World),RuleU W a z.p.line.turn → PatA W Ak ck p → p.parts.length = pn → p.rest = pr → Calls Tryz.prog 48 #[.agg #[.bool ex,.slice a.AL r a.cl,.bool rr,.slice a.AR l a.cr,.bool lr],.agg #[.slice Ak pn ck,.bool pr]] W fun e w'=>NarEnd ((narL z.p.line p).1.map Rule.turn,(narL z.p.line p).2) W.heap.size e w' ∧ Calm W w'):=fun a p Ak pn ck pr W hU hp hpn hpr=>by
  have:=nright_c z.p.line.turn p a pn ck pr Ak W hU hsr.turn hp hpn hpr
  unfold ruleV at this
  rw [narR_turn hok.r hok.ex,show z.p.line.turn.left.parts.length = r from hz1.2.1,show z.p.line.turn.right.parts.length = l from hz1.1,show z.p.line.turn.left.rest = rr from hz1.2.2.2.1,show z.p.line.turn.right.rest = lr from hz1.2.2.1,show z.p.line.turn.excl = ex from hz1.2.2.2.2] at this
  exact this
 have h64 : gh ≤ 64:=by
  rw [← hgh]
  exact (gErr_zero hok.g).2.2
 have HW:=Lib.hid hw1
 have HE:=Lib.hid (And.intro e0 e1)
 have HC:=Lib.hid hc1
 have HB0:=Lib.hid hb0
 have HB1:=Lib.hid hb1
 have HU:=Lib.hid (hu.g.holes.calm hc1)
 have HOk:=Lib.hid hok
 have HZ:=Lib.hid hz
 have HSr:=Lib.hid hsr
 have HGh:=Lib.hid hgh
 have HZ1:=Lib.hid hz1
 have b4:=hb0.at_ 4 _ rfl
 have b5:=hb0.at_ 5 _ rfl
 have b6:=hb0.at_ 6 _ rfl
 have b7:=hb0.at_ 7 _ rfl
 have b8:=hb0.at_ 8 _ rfl
 clear hu hok hz hgh hz1 hw1 hc1 e0 e1 hb0 hb1 hsr
 go_enter Tryz.func54,Tryz.ntmps54
 go_upto_region 1 with (fail)
 rw [← HW.out]
 simp only [HE.out.1,HE.out.2]
 go_wp2_with fail
 refine KT.out.mono ?_
 rintro e w2 ⟨⟨a,rfl,hN⟩,hc2⟩
 obtain ⟨w3,hw3⟩ : ∃ w3,w3 = w2.alloc (.cells #[.bool ex,.slice a.AL r a.cl,.bool rr,.slice a.AR l a.cr,.bool lr] 69):=⟨_,rfl⟩
 obtain ⟨P2,e2⟩ : ∃ P2,w2.heap.size = P2:=⟨_,rfl⟩
 have hc23 : Calm w2 w3:=by
  show Below _ _ _
  rw [hw3]
  exact (Calm.refl _).alloc _
 have HC3 : Hid (Calm w1 w3):=hc2.trans hc23
 have HP2 : Hid (CellsB w3 P2 [.bool ex,.slice a.AL r a.cl,.bool rr,.slice a.AR l a.cr,.bool lr]):=by
  show CellsB _ _ _
  rw [hw3,← e2]
  exact CellsB.new w2 _ _
 have HN : Hid (RuleN w3 w1.heap.size a z.p.line.turn):=hN.calm hc23
 have b2:=(HB0.out.calm hc2).at_ 2 _ rfl
 have lt0:=(HB0.out.calm hc2).lt
 have HE2:=Lib.hid e2
 have HW3:=Lib.hid hw3
 clear b4 b5 b6 b7 b8 hN KT e2 hw3
 go_wp2_with fail
 rw [← HW3.out]
 try simp only [HE2.out]
 clear HW3 HE2 hc23 hc2 b2 lt0
 go_loopw [5,19] (fun v u wr=>∃ (k : Nat) (ys : List NewP),k ≤ gh ∧ u = .int .i64 k ∧ Hid (ys.length ≤ k) ∧ Hid (RgtJ w3 wr z.p.line z.p.region.hs k ys v)) (fun _ u _=>gh - (intOf u).toNat)
 case atStart=>exact ⟨0,[],Nat.zero_le _,rfl,Nat.le_refl _,⟨OwnX.nil (Calm.refl _),rfl,fun y hy=>(by cases hy)⟩⟩
 case round=>
  obtain ⟨k,ys,hk,rfl,HL,HI⟩:=hrel
  obtain ⟨wq,rfl⟩ : ∃ wq,wq = wr:=⟨_,rfl⟩
  have HCq : Hid (Calm w3 wq):=HI.out.own.calm
  have hp2:=HP2.out.calm HCq.out
  have t0:=hp2.at_ 0 _ rfl
  have t1:=hp2.at_ 1 _ rfl
  have t2:=hp2.at_ 2 _ rfl
  have t3:=hp2.at_ 3 _ rfl
  have t4:=hp2.at_ 4 _ rfl
  have lt2:=hp2.lt
  clear hp2
  by_cases hlt : k < gh
  ·obtain ⟨bb,o,p,Ak,ck,hA1,hbb,hp,h1,h2,h3,h5,h4⟩:=(HU.out.calm (HC3.out.trans HCq.out)).get (k:=k) (by rw [HGh.out];exact hlt)
   rw [hA1]
   obtain ⟨pn,hpn⟩ : ∃ pn,p.parts.length = pn:=⟨_,rfl⟩
   obtain ⟨pr,hpr⟩ : ∃ pr,p.rest = pr:=⟨_,rfl⟩
   rw [hpn] at h1
   rw [hpr] at h2
   have HP:=Lib.hid hp
   have HPa : Hid (PatA wq Ak ck p):=⟨h4,h3,h5⟩
   have HPn:=Lib.hid (And.intro hpn hpr)
   clear hA1 hp h3 h4 h5 hpn hpr
   go_wp2_with fail
   have HCb : Hid (Calm wq (wq.alloc (.cells #[.slice Ak pn ck,.bool pr] 51))):=(Calm.refl _).alloc _
   refine (KN.out a p Ak pn ck pr _ ((HN.out.calm (HCq.out.trans HCb.out)).u) (HPa.out.calm HCb.out) HPn.out.1 HPn.out.2).mono ?_
   rintro e w5 ⟨hE,hc5⟩
   have HC5 : Hid (Calm wq w5):=HCb.out.trans hc5
   have HS5 : Hid (w3.heap.size ≤ (wq.alloc (.cells #[.slice Ak pn ck,.bool pr] 51)).heap.size):=(HCq.out.trans HCb.out).size
   clear hc5 h1 h2 t0 t1 t2 t3 t4 lt2
   obtain ⟨⟨o',x⟩,hX⟩ : ∃ X,narL z.p.line p = X:=⟨_,rfl⟩
   rw [hX] at hE
   have HX:=Lib.hid hX
   clear hX
   rcases hE with ⟨h1,rfl⟩ | ⟨n,a2,h1,rfl,hRn⟩
   ·simp only at h1
    have ho' : o' = none:=by
     rcases o' with _ | m
     ·rfl
     ·cases h1
    subst ho'
    simp only
    by_cases hx0 : x = 0
    ·subst hx0
     have HI2:=Lib.hid (HI.out.miss HP.out (by rw [HX.out]) (by rw [HX.out]) (HC5.out.alloc (.cells #[.bool false,.slice none 0 0,.bool false,.slice none 0 0,.bool false] 69)))
     clear h1
     go_wp2_with fail
     go_roundw
     case rel=>exact ⟨k + 1,ys,by omega,by go_num,Nat.le_succ_of_le HL.out,HI2⟩
     case measure=>simp [intOf];omega
    ·have hx1 : (x != 0) = true:=by simpa using hx0
     have HNo : Hid (entOfP z.p = none):=by
      show _ = _
      unfold entOfP
      rw [HI.out.stop HP.out (by rw [HX.out];exact hx0)]
      rfl
     have hz5:=HB1.out.calm (HC3.out.trans (HCq.out.trans HC5.out))
     have z0:=hz5.at_ 0 _ rfl
     have z1:=hz5.at_ 1 _ rfl
     have z2:=hz5.at_ 2 _ rfl
     have z3:=hz5.at_ 3 _ rfl
     have z4:=hz5.at_ 4 _ rfl
     have f0:=hz5.fz 0
     have f1:=hz5.fz 1
     have f2:=hz5.fz 2
     have f3:=hz5.fz 3
     have f4:=hz5.fz 4
     have hzl:=hz5.lt
     have hne : ¬ P1 = w5.heap.size:=by omega
     have hne2 : ¬ w5.heap.size = P1:=by omega
     have HCe : Hid (∀ u0 u1 u2 u3 u4 X,Calm w ((set5 w5 P1 u0 u1 u2 u3 u4).alloc X)):=fun u0 u1 u2 u3 u4 X=>(calm5 ((HC.out.trans HC3.out).trans (HCq.out.trans HC5.out)) (by have:=HE.out;omega) u0 u1 u2 u3 u4).alloc _
     clear hz5 h1
     go_wp2_with fail
     refine bodyPost_ret (v:=.tuple #[.agg #[.slice none 0 0,.bool false,.slice none 0 0,.bool false,.slice none 0 0],.int .i64 80]) ?_ rfl ⟨.inl ⟨HNo.out,rfl⟩,HCe.out _ _ _ _ _ _⟩
     rw [results_cell_slot3 rfl]
     go_simp
   ·have hx0 : x = 0:=congrArg Prod.snd h1
    have ho : o'.map Rule.turn = some n:=congrArg Prod.fst h1
    subst hx0
    obtain ⟨m,rfl,rfl⟩:=Option.map_eq_some_iff.1 ho
    obtain ⟨q0,hq0⟩ : ∃ q0,m.turn.excl = q0:=⟨_,rfl⟩
    obtain ⟨q1,hq1⟩ : ∃ q1,m.turn.left.parts.length = q1:=⟨_,rfl⟩
    obtain ⟨q2,hq2⟩ : ∃ q2,m.turn.left.rest = q2:=⟨_,rfl⟩
    obtain ⟨q3,hq3⟩ : ∃ q3,m.turn.right.parts.length = q3:=⟨_,rfl⟩
    obtain ⟨q4,hq4⟩ : ∃ q4,m.turn.right.rest = q4:=⟨_,rfl⟩
    unfold ruleV
    rw [hq0,hq1,hq2,hq3,hq4]
    have hgo : (narL z.p.line p).1 = some m:=by rw [HX.out]
    have HSm : Hid (SmallN w5 w3.heap.size ⟨a2.AL,a2.cl,m.right⟩):=⟨hRn.l.mono HS5.out,by
     have:=pat_few (ruleErr_twin.1 (narL_good hgo)).rp
     show m.right.parts.length ≤ 16384
     omega,fun y hy=>by
     have hl : LetP 40 z.p.line.left:=by rw [HOk.out.lb];exact HZ.out.b
     have:=narL_each hgo (L:=80) (by decide) (fun y hy=>by have:=hl y hy;omega) (HZ.out.r.right hl) (fun y hy=>by have:=HZ.out.h p (List.mem_of_getElem? HP.out) y hy;omega) y hy
     omega⟩
    have HQ : Hid (m.right.parts.length = q1 ∧ m.right.rest = q2):=⟨hq1,hq2⟩
    have hlen : ys.length ≤ k:=HL.out
    clear h1 ho hgo hRn hq0 hq1 hq2 hq3 hq4
    go_upto_region 10 with (fail)
    go_wp2_with (at_builtin;refine wpList_append_ps rfl (.tmp 34) (.tmp 37) rfl w3 _ ys [⟨a2.AL,a2.cl,m.right⟩] rfl (HI.out.own.to (HC5.out.trans (((Calm.refl _).alloc _).alloc _))) _ 1 1 rfl rfl (read_newH ⟨a2.AL,a2.cl,m.right⟩ (by simp) HQ.out.1 HQ.out.2) (by omega) ?_;intro v7 w7 hown7 hg7)
    have HRel:=Lib.hid (HI.out.hit (x:=⟨a2.AL,a2.cl,m.right⟩) HP.out (by rw [HX.out]) (n:=m) (by rw [HX.out]) rfl (HC5.out.trans (((Calm.refl _).alloc _).alloc _)) (HSm.out.calm (((Calm.refl _).alloc _).alloc _)) hg7 hown7)
    go_roundw
    case rel=>exact ⟨k + 1,ys ++ [⟨a2.AL,a2.cl,m.right⟩],by omega,by go_num,(by show _ ≤ _;rw [List.length_append,List.length_singleton];omega),HRel⟩
    case measure=>simp [intOf];omega
  ·obtain rfl : k = gh:=by omega
   have his : rightHs z.p.line z.p.region.hs = some (ys.map (·.p)):=by
    have:=HI.out.is
    rw [List.take_of_length_le (by rw [HGh.out];exact Nat.le_refl _)] at this
    exact this
   obtain ⟨HA,hac,hv⟩:=HI.out.own.len_shape
   have hps : PatsR wq HA (ys.map (·.p)):=by
    have:=HI.out.own
    rw [hv] at this
    exact own_readsR this (fun y hy=>(HI.out.each y hy).a) (by have:=HL.out;omega)
   obtain ⟨N,hN⟩ : ∃ N,ys.length = N:=⟨_,rfl⟩
   rw [hN] at hv
   subst hv
   have hNk : N ≤ k:=by have:=HL.out;omega
   obtain ⟨ks,hks⟩ : ∃ ks,ys.map (·.p) = ks:=⟨_,rfl⟩
   have hkl : ks.length = N:=by rw [← hks,List.length_map,hN]
   rw [hks] at his hps
   have tw:=ruleErr_twin.1 HOk.out.r
   have hl : LetP 40 z.p.line.left:=by rw [HOk.out.lb];exact HZ.out.b
   have hrl:=HZ.out.r.right hl
   obtain ⟨hn,hhn⟩ : ∃ hn,(redL z.p.line.right ks).length = hn:=⟨_,rfl⟩
   have hu3 : PatA wq a.AL a.cl z.p.line.right:=by
    have h:=(HN.out.calm HCq.out).l
    exact ⟨h.u.toR (by have:=pat_few tw.rp;show z.p.line.right.parts.length ≤ _;omega) (fun y hy=>by have:=hrl y hy;omega),h.room,h.cap⟩
   have KRd : Hid (Calls Tryz.prog 89 #[.agg #[.slice a.AL r a.cl,.bool rr],.slice HA N hac] wq fun e w'=>(∃ A3 c3 HA3 hc3,e = .returned (.agg #[.slice A3 r c3,.bool rr,.slice HA3 hn hc3]) ∧ NewS w' wq.heap.size A3 c3 z.p.line.right.parts ∧ PatsN w' wq.heap.size HA3 hc3 (redL z.p.line.right ks)) ∧ Calm wq w'):=by
    have:=reduce_c z.p.line.right ks a.AL a.cl HA N hac wq hu3 hps hkl tw.rp (rightHs_good his).1
    unfold RedEnd at this
    rw [HZ1.out.2.1,HZ1.out.2.2.2.1,hhn] at this
    exact this
   have HIs : Hid (entOfP z.p = some ⟨z.p.line.right,z.p.line.left,redL z.p.line.right ks⟩):=by
    show _ = _
    unfold entOfP
    rw [his]
    rfl
   have HHn : Hid ((redL z.p.line.right ks).length = hn ∧ hn ≤ 16384):=⟨hhn,by
    have:=redL_len z.p.line.right ks
    rw [hhn,hkl] at this
    omega⟩
   have HB : Hid ((∀ y ∈ z.p.line.right.parts,y.length ≤ 16384) ∧ (∀ y ∈ z.p.line.left.parts,y.length ≤ 16384) ∧ z.p.line.right.parts.length ≤ 16384 ∧ z.p.line.left.parts.length ≤ 16384):=⟨fun y hy=>by have:=hrl y hy;omega,fun y hy=>by have:=hl y hy;omega,by have:=pat_few tw.rp;omega,by have:=pat_few tw.lp;omega⟩
   clear his hps hN hks hkl tw hl hrl hhn hu3
   go_wp2_with fail
   refine KRd.out.mono ?_
   rintro e w5 ⟨⟨A3,c3,HA3,hc3,rfl,hN5,hP5⟩,hc5⟩
   have t0:=Calm.at_ hc5 t0 lt2
   have t1:=Calm.at_ hc5 t1 lt2
   have t2:=Calm.at_ hc5 t2 lt2
   have t3:=Calm.at_ hc5 t3 lt2
   have t4:=Calm.at_ hc5 t4 lt2
   have lt2:=Nat.lt_of_lt_of_le lt2 hc5.size
   have hz5:=HB1.out.calm (HC3.out.trans (HCq.out.trans hc5))
   have z0:=hz5.at_ 0 _ rfl
   have z1:=hz5.at_ 1 _ rfl
   have z2:=hz5.at_ 2 _ rfl
   have z3:=hz5.at_ 3 _ rfl
   have z4:=hz5.at_ 4 _ rfl
   have f0:=hz5.fz 0
   have f1:=hz5.fz 1
   have f2:=hz5.fz 2
   have f3:=hz5.fz 3
   have f4:=hz5.fz 4
   have hzl:=hz5.lt
   have hne : ¬ P1 = w5.heap.size:=by omega
   have hne2 : ¬ w5.heap.size = P1:=by omega
   have hP1 : P1 < w1.heap.size:=HB1.out.lt
   have HCe : Hid (∀ u0 u1 u2 u3 u4 X,Calm w ((set5 w5 P1 u0 u1 u2 u3 u4).alloc X)):=fun u0 u1 u2 u3 u4 X=>(calm5 ((HC.out.trans HC3.out).trans (HCq.out.trans hc5)) (by have:=HE.out;omega) u0 u1 u2 u3 u4).alloc _
   have HEn : Hid (∀ u0 u1 u2 u3 u4 X,EntN ((set5 w5 P1 u0 u1 u2 u3 u4).alloc X) w.heap.size ⟨A3,c3,a.AR,a.cr,HA3,hc3,⟨z.p.line.right,z.p.line.left,redL z.p.line.right ks⟩⟩):=fun u0 u1 u2 u3 u4 X=>by
    have hq:=(HC3.out.trans HCq.out).size
    have h0 : EntN w5 w1.heap.size ⟨A3,c3,a.AR,a.cr,HA3,hc3,⟨z.p.line.right,z.p.line.left,redL z.p.line.right ks⟩⟩:=⟨⟨hN5.mono hq,HB.out.2.2.1,HB.out.1⟩,⟨((HN.out.calm (HCq.out.trans hc5)).r),HB.out.2.2.2,HB.out.2.1⟩,hP5.mono hq,by show (redL z.p.line.right ks).length ≤ _;rw [HHn.out.1];exact HHn.out.2⟩
    exact ((h0.set5 hP1 u0 u1 u2 u3 u4).mono HC.out.size).calm ((Calm.refl _).alloc _)
   clear hz5 hN5 hP5 hc5 KRd
   go_wp2_with fail
   refine bodyPost_ret (v:=.tuple #[.agg #[.slice A3 r c3,.bool rr,.slice a.AR l a.cr,.bool lr,.slice HA3 hn hc3],.int .i64 0]) ?_ rfl ⟨.inr ⟨⟨A3,c3,a.AR,a.cr,HA3,hc3,⟨z.p.line.right,z.p.line.left,redL z.p.line.right ks⟩⟩,HIs.out,?_,HEn.out _ _ _ _ _ _⟩,HCe.out _ _ _ _ _ _⟩
   ·rw [results_cell_slot3 rfl]
    go_simp
   ·unfold encE
    simp only [HZ1.out.1,HZ1.out.2.1,HZ1.out.2.2.1,HZ1.out.2.2.2.1,HHn.out.1]
end Go.Proofs.YtdcdabbepnahnaaGreatDoor
set_option linter.unusedVariables false
set_option linter.unusedSimpArgs false
namespace Go.Proofs.YtdcdabbepnahnaaGreatDoor
open Go Go.RowKit Sy

theorem stepPs_len {name : Str} {own : Reg} {x : Line} : ∀ (ups acc out : List Pc),stepPs name own x ups acc = some out → acc.length ≤ 32 → out.length ≤ 32
 |[],acc,out,h,ha=>by
  obtain rfl:=Option.some.inj h
  exact ha
 |p :: ps,acc,out,h,ha=>by
  unfold stepPs at h
  by_cases h0 : (meetR own p.region).2 ≠ 0
  ·rw [if_pos h0] at h
   cases h
  ·rw [if_neg h0] at h
   rcases hm : (meetR own p.region).1 with _ | g
   ·rw [hm] at h
    exact stepPs_len ps acc out h ha
   ·rw [hm] at h
    simp only at h
    rcases hq : narP name x p g with _ | q
    ·rw [hq] at h
     cases h
    ·rw [hq] at h
     simp only at h
     by_cases h32 : acc.length = 32
     ·rw [if_pos h32] at h
      cases h
     ·rw [if_neg h32] at h
      exact stepPs_len ps (acc ++ [q]) out h (by rw [List.length_append,List.length_singleton];omega)
theorem linesPs_len {name : Str} {up : List Pc} : ∀ (ls : List Line) (acc out : List Pc),linesPs name up ls acc = some out → acc.length ≤ 32 → out.length ≤ 32
 |[],acc,out,h,ha=>by
  obtain rfl:=Option.some.inj h
  exact ha
 |x :: r,acc,out,h,ha=>by
  unfold linesPs at h
  by_cases h4 : x.kind = 4
  ·rw [if_pos h4] at h
   exact linesPs_len r acc out h ha
  ·rw [if_neg h4] at h
   rcases hs : stepPs name (ownG x r) x up acc with _ | acc'
   ·rw [hs] at h
    cases h
   ·rw [hs] at h
    exact linesPs_len r acc' out h (stepPs_len _ _ _ hs ha)
theorem pcs_none' {ss : List Strm} (h : Sy.Good ss) {i : Nat} (hp : parentI ss i = none) : pcs ss i = wholeP (strm ss i).name (some rootPs) (strm ss i).paths:=by
 unfold pcs
 rw [h.none hp]
 rfl
theorem pcs_some' {ss : List Strm} (h : Sy.Good ss) {i p : Nat} (hp : parentI ss i = some p) : pcs ss i = wholeP (strm ss i).name (pcs ss p) (strm ss i).paths:=by
 unfold pcs
 rw [h.some hp]
 conv=>lhs;unfold pcsL
 unfold wholeP
 rcases pcsL ss (p :: above ss p) with _ | u <;> rfl
theorem wholeP_len {nm : Str} {up : Option (List Pc)} {ls : List Line} {ps : List Pc} (h : wholeP nm up ls = some ps) : ps.length ≤ 32:=by
 unfold wholeP at h
 rcases up with _ | u
 ·cases h
 ·exact linesPs_len ls [] ps h (Nat.zero_le _)
theorem pcs_len {ss : List Strm} (h : Sy.Good ss) {i : Nat} {ps : List Pc} (hp : pcs ss i = some ps) : ps.length ≤ 32:=by
 rcases hpo : parentI ss i with _ | p
 ·rw [pcs_none' h hpo] at hp
  exact wholeP_len hp
 ·rw [pcs_some' h hpo] at hp
  exact wholeP_len hp
theorem pieces_c (ss : List Strm) (F : Nat) (A : Option Addr) (n c i : Nat) (hn : ss.length = n) (hg : Sy.Good ss) (hsm : SmallSS ss) (hz : StrmsZ ss) (hi : i < n) : ∀ w,ForestAt w F A n c ss →
  Calls Tryz.prog 53 #[.pointer (some ⟨F,0,none⟩),.int .i64 i] w fun e w'=>PcsEnd (pcs ss i) e w' ∧ Calm w w':=by
 refine hg.above_ind (P:=fun i=>∀ w,ForestAt w F A n c ss → Calls Tryz.prog 53 #[.pointer (some ⟨F,0,none⟩),.int .i64 i] w fun e w'=>PcsEnd (pcs ss i) e w' ∧ Calm w w') ?_ ?_ i (by omega)
 ·intro i hi hp w hf
  obtain ⟨o1,o2,_,_,_,o6⟩:=ownErr_zero (hg.own i hi)
  rw [pcs_none' hg hp]
  exact pieces_step ss F A n c i none (some rootPs) w hf (by omega) hp (hsm.at_ hi) (hz.at_ hi) (hg.lines hi) o1 o2 (by omega) (fun _=>rfl) (fun ups h=>by
   obtain rfl:=Option.some.inj h
   exact ⟨fun p hp=>⟨root_up p hp,root_z p hp⟩,by decide⟩) (fun W p _ h=>by cases h)
 ·intro i p hi hp ih w hf
  obtain ⟨o1,o2,_,_,_,o6⟩:=ownErr_zero (hg.own i hi)
  have hpl:=parentI_lt hp
  rw [pcs_some' hg hp]
  exact pieces_step ss F A n c i (some p) (pcs ss p) w hf (by omega) hp (hsm.at_ hi) (hz.at_ hi) (hg.lines hi) o1 o2 (by omega) (fun h=>by cases h) (fun ups h=>⟨fun q hq=>⟨((pcs_mean hg p hpl ups h).ok q hq).up,(pcs_z hg hz p hpl ups h q hq).up⟩,pcs_len hg h⟩) (fun W q hW h=>by
   cases h
   exact ih W (hf.calm hW))
end Go.Proofs.YtdcdabbepnahnaaGreatDoor
set_option linter.unusedVariables false
set_option linter.unusedSimpArgs false
namespace Go.Proofs.YtdcdabbepnahnaaGreatDoor
open Go Go.RowKit Sy

theorem entsP_stop : ∀ {ps : List Pc} {k : Nat} {p : Pc},ps[k]? = some p → entOfP p = none → entsP ps = none
 |[],k,p,h,_=>by simp at h
 |q :: r,0,p,h,h0=>by
  obtain rfl : q = p:=by simpa using h
  unfold entsP
  rw [h0]
 |q :: r,k + 1,p,h,h0=>by
  have ih:=entsP_stop (ps:=r) (k:=k) (by simpa using h) h0
  unfold entsP
  rcases entOfP q with _ | e
  ·rfl
  ·simp only
   rw [ih]
   rfl
theorem entsP_snoc : ∀ {ps : List Pc} {p : Pc} {e : Ent} {es : List Ent},entsP ps = some es → entOfP p = some e → entsP (ps ++ [p]) = some (es ++ [e])
 |[],p,e,es,h,he=>by
  obtain rfl:=Option.some.inj h
  simp only [List.nil_append]
  unfold entsP
  rw [he]
  rfl
 |q :: r,p,e,es,h,he=>by
  rw [List.cons_append]
  unfold entsP at h ⊢
  rcases hq : entOfP q with _ | e'
  ·rw [hq] at h
   cases h
  ·rw [hq] at h
   obtain ⟨es',h1,rfl⟩:=Option.map_eq_some_iff.1 h
   simp only
   rw [entsP_snoc h1 he]
   rfl
structure EnsI (w0 wr : World) (v : Value) (ps : List Pc) (k : Nat) (zs : List NewE) : Prop where
 own : OwnX encE 5 73 w0 wr v zs
 is : entsP (ps.take k) = some (zs.map (·.e))
 each : ∀ z ∈ zs,EntN wr w0.heap.size z
theorem EnsI.nil {w0 : World} (ps : List Pc) : EnsI w0 w0 (.slice none 0 0) ps 0 []:=⟨OwnX.nil (Calm.refl _),rfl,fun z hz=>by cases hz⟩
theorem EnsI.len {w0 wr : World} {v : Value} {ps : List Pc} {k : Nat} {zs : List NewE} (h : EnsI w0 wr v ps k zs) : zs.length ≤ ps.length:=by
 have:=(entsP_at h.is).1
 rw [List.length_map,List.length_take] at this
 omega
theorem EnsI.add {w0 wr w2 w3 : World} {v v2 : Value} {ps : List Pc} {k : Nat} {zs : List NewE} {p : Pc} {y : NewE} (h : EnsI w0 wr v ps k zs) (hp : ps[k]? = some p) (he : entOfP p = some y.e) (hc : Calm wr w2) (hy : EntN w2 w0.heap.size y) (hg : w2.grownBy w3 v.ownBlock) (hown : OwnX encE 5 73 w0 w3 v2 (zs ++ [y])) : EnsI w0 w3 v2 ps (k + 1) (zs ++ [y]):=by
 refine ⟨hown,?_,fun z hz=>?_⟩
 ·rw [take_snoc hp,entsP_snoc h.is he,List.map_append]
  rfl
 ·rcases List.mem_append.1 hz with hz | hz
  ·exact ((h.each z hz).calm hc).own (by decide) (by decide) (h.own.to hc).own hg
  ·rw [List.mem_singleton] at hz
   subst hz
   exact hy.own (by decide) (by decide) (h.own.to hc).own hg
def ViewEnd (x : Option (List Pc)) (B : Nat) (e : Ending) (w' : World) : Prop:=
 ((x = none ∨ ∃ ps,x = some ps ∧ entsP ps = none) ∧ e = .returned (.tuple #[.slice none 0 0,.slice none 0 0,.int .i64 80])) ∨
 (∃ ps A c zs A' c',x = some ps ∧ entsP ps = some (zs.map (·.e)) ∧ e = .returned (.tuple #[.slice A ps.length c,.slice A' zs.length c',.int .i64 0]) ∧ PcsR w' A ps ∧ ps.length ≤ c ∧ c ≤ 9223372036854775807 ∧ ReadX encE 5 w' A' zs ∧ (∀ z ∈ zs,EntN w' B z) ∧ zs.length ≤ c' ∧ c' ≤ 9223372036854775807)

set_option maxRecDepth 100000 in
set_option maxHeartbeats 16000000 in
theorem view_c (ss : List Strm) (F : Nat) (A : Option Addr) (n c i : Nat) (w : World) (hf : ForestAt w F A n c ss) (hg : Sy.Good ss) (hsm : SmallSS ss) (hz : StrmsZ ss) (hi : i < n) :
  Calls Tryz.prog 23 #[.pointer (some ⟨F,0,none⟩),.int .i64 i] w fun e w'=>ViewEnd (pcs ss i) w.heap.size e w' ∧ Calm w w':=by
 have KP:=pieces_c ss F A n c i hf.hn hg hsm hz hi w hf
 have hok : ∀ ps,pcs ss i = some ps → ps.length ≤ 32 ∧ ∀ p ∈ ps,PcOk p ∧ PcZ p:=fun ps h=>⟨pcs_len hg h,fun p hp=>⟨(pcs_mean hg i (by rw [hf.hn];exact hi) ps h).ok p hp,pcs_z hg hz i (by rw [hf.hn];exact hi) ps h p hp⟩⟩
 obtain ⟨po,hpo⟩ : ∃ po,pcs ss i = po:=⟨_,rfl⟩
 rw [hpo] at KP hok ⊢
 have HOk:=Lib.hid hok
 clear hpo hok hf hg hsm hz hi
 go_enter Tryz.func23,Tryz.ntmps23
 go_wp2_with fail
 refine KP.mono ?_
 rintro e w2 ⟨hE,hc2⟩
 have HC2:=Lib.hid hc2
 clear hc2 KP
 rcases hE with ⟨hx,rfl⟩ | ⟨ps,PA,pc,hx,rfl,hR,hr1,hr2⟩
 ·have HX : Hid (po = none):=hx
  clear hx
  go_wp2_with fail
  refine bodyPost_ret (results_tmp3 rfl _ _ _) rfl ?_
  exact ⟨.inl ⟨.inl HX.out,rfl⟩,HC2.out⟩
 ·have HX : Hid (po = some ps):=hx
  obtain ⟨np,hnp⟩ : ∃ np,ps.length = np:=⟨_,rfl⟩
  rw [hnp] at hr1 ⊢
  have HNp:=Lib.hid hnp
  have h32 : np ≤ 32:=by
   rw [← hnp]
   exact (HOk.out ps hx).1
  have HPs:=Lib.hid (HOk.out ps hx).2
  have HR:=Lib.hid hR
  clear hx hnp hR
  go_wp2_with fail
  go_loopw [9,25] (fun v u wr=>∃ (k : Nat) (zs : List NewE),k ≤ np ∧ u = .int .i64 k ∧ Hid (EnsI w2 wr v ps k zs)) (fun _ u _=>np - (intOf u).toNat)
  case atStart=>exact ⟨0,[],Nat.zero_le _,rfl,EnsI.nil ps⟩
  case round=>
   obtain ⟨k,zs,hk,rfl,HI⟩:=hrel
   obtain ⟨wz,rfl⟩ : ∃ wz,wz = wr:=⟨_,rfl⟩
   by_cases hlt : k < np
   ·obtain ⟨bu,ou,z,rfl,hbu,hzm,hz9,hza⟩:=HR.out.get (k:=k) (by rw [HNp.out];exact hlt)
    obtain ⟨gb,hgb⟩ : ∃ gb,z.p.region.b.parts.length = gb:=⟨_,rfl⟩
    obtain ⟨gr,hgr⟩ : ∃ gr,z.p.region.b.rest = gr:=⟨_,rfl⟩
    obtain ⟨gk,hgk⟩ : ∃ gk,z.p.region.hs.length = gk:=⟨_,rfl⟩
    obtain ⟨pk,hpk⟩ : ∃ pk,z.p.kind = pk:=⟨_,rfl⟩
    obtain ⟨ex,hex⟩ : ∃ ex,z.p.line.excl = ex:=⟨_,rfl⟩
    obtain ⟨il,hil⟩ : ∃ il,z.p.line.left.parts.length = il:=⟨_,rfl⟩
    obtain ⟨lr,hlr⟩ : ∃ lr,z.p.line.left.rest = lr:=⟨_,rfl⟩
    obtain ⟨ir,hir⟩ : ∃ ir,z.p.line.right.parts.length = ir:=⟨_,rfl⟩
    obtain ⟨rr,hrr⟩ : ∃ rr,z.p.line.right.rest = rr:=⟨_,rfl⟩
    have cw:=HI.out.own.calm
    have x0:=Calm.at_ cw hz9.c0 hbu
    have x1:=Calm.at_ cw hz9.c1 hbu
    have x2:=Calm.at_ cw hz9.c2 hbu
    have x3:=Calm.at_ cw hz9.c3 hbu
    have x4:=Calm.at_ cw hz9.c4 hbu
    have x5:=Calm.at_ cw hz9.c5 hbu
    have x6:=Calm.at_ cw hz9.c6 hbu
    have x7:=Calm.at_ cw hz9.c7 hbu
    have x8:=Calm.at_ cw hz9.c8 hbu
    rw [hgb] at x0
    rw [hgr] at x1
    rw [hgk] at x2
    rw [hpk] at x3
    rw [hex] at x4
    rw [hil] at x5
    rw [hlr] at x6
    rw [hir] at x7
    rw [hrr] at x8
    have hbu:=Nat.lt_of_lt_of_le hbu cw.size
    have HZm:=Lib.hid hzm
    have hpo:=HPs.out z.p (List.mem_of_getElem? hzm)
    have HCa : Hid (Calm wz (wz.alloc (.cells #[.slice z.A gb z.c,.bool gr,.slice z.HA gk z.hc,.int .i64 pk,.bool ex,.slice z.a.AL il z.a.cl,.bool lr,.slice z.a.AR ir z.a.cr,.bool rr] 95))):=(Calm.refl _).alloc _
    have HEn:=Lib.hid (entry_c z gb gk il ir gr ex lr rr pk _ (hza.calm (cw.trans HCa.out)) hpo.1 hpo.2 hgk ⟨hil,hir,hlr,hrr,hex⟩)
    have HS5 : Hid (w2.heap.size ≤ (wz.alloc (.cells #[.slice z.A gb z.c,.bool gr,.slice z.HA gk z.hc,.int .i64 pk,.bool ex,.slice z.a.AL il z.a.cl,.bool lr,.slice z.a.AR ir z.a.cr,.bool rr] 95)).heap.size):=(cw.trans HCa.out).size
    clear cw hz9 hza hzm hpo hgb hgr hgk hpk hex hil hlr hir hrr
    go_wp2_with fail
    refine HEn.out.mono ?_
    rintro e w5 ⟨hE,hc5⟩
    have HC5 : Hid (Calm wz w5):=HCa.out.trans hc5
    clear hc5 x0 x1 x2 x3 x4 x5 x6 x7 x8 HEn
    rcases hE with ⟨hx,rfl⟩ | ⟨y,hx,rfl,hN⟩
    ·have HNo : Hid (entsP ps = none):=entsP_stop HZm.out hx
     have HCe : Hid (Calm w w5):=HC2.out.trans (HI.out.own.calm.trans HC5.out)
     clear hx
     go_wp2_with fail
     refine bodyPost_ret (results_tmp3 rfl _ _ _) rfl ?_
     exact ⟨.inl ⟨.inr ⟨ps,HX.out,HNo.out⟩,rfl⟩,HCe.out.alloc _⟩
    ·obtain ⟨q1,hq1⟩ : ∃ q1,y.e.left.parts.length = q1:=⟨_,rfl⟩
     obtain ⟨q2,hq2⟩ : ∃ q2,y.e.left.rest = q2:=⟨_,rfl⟩
     obtain ⟨q3,hq3⟩ : ∃ q3,y.e.right.parts.length = q3:=⟨_,rfl⟩
     obtain ⟨q4,hq4⟩ : ∃ q4,y.e.right.rest = q4:=⟨_,rfl⟩
     obtain ⟨q5,hq5⟩ : ∃ q5,y.e.hs.length = q5:=⟨_,rfl⟩
     have hen : (encE y).toArray = #[.slice y.LA q1 y.lc,.bool q2,.slice y.RA q3 y.rc,.bool q4,.slice y.HA q5 y.hc]:=by
      unfold encE
      rw [hq1,hq2,hq3,hq4,hq5]
     rw [hen]
     have HEp : Hid (entOfP z.p = some y.e):=hx
     have HN : Hid (EntN w5 w2.heap.size y):=hN.mono HS5.out
     have HQ:=Lib.hid (And.intro hq1 (And.intro hq2 (And.intro hq3 (And.intro hq4 hq5))))
     have hzl:=HI.out.len
     rw [HNp.out] at hzl
     clear hx hN hen hq1 hq2 hq3 hq4 hq5
     go_upto_region 11 with (fail)
     go_wp2_with (at_builtin;refine wpList_append_xs (enc:=encE) (K:=5) (T:=73) Tryz.underlying25 info_ent rfl (by decide) (by decide) encE_len encE_one rfl (.tmp 37) (.tmp 39) rfl w2 _ zs [y] rfl (HI.out.own.to (HC5.out.trans (((Calm.refl _).alloc _).alloc _))) _ 1 1 rfl rfl (read_newE y (by simp) HQ.out.1 HQ.out.2.1 HQ.out.2.2.1 HQ.out.2.2.2.1 HQ.out.2.2.2.2) (by omega) ?_;intro v7 w7 hown7 hg7)
     have HRel:=Lib.hid (HI.out.add (y:=y) HZm.out HEp.out (HC5.out.trans (((Calm.refl _).alloc _).alloc _)) (HN.out.calm (((Calm.refl _).alloc _).alloc _)) hg7 hown7)
     go_roundw
     case rel=>exact ⟨k + 1,zs ++ [y],by omega,by go_num,HRel⟩
     case measure=>simp [intOf];omega
   ·obtain rfl : k = np:=by omega
    have hes : entsP ps = some (zs.map (·.e)):=by
     have:=HI.out.is
     rw [List.take_of_length_le (by rw [HNp.out];exact Nat.le_refl _)] at this
     exact this
    obtain ⟨A',c',hv,h1,h2,h3⟩ : ∃ A' c',u9 = .slice A' zs.length c' ∧ zs.length ≤ c' ∧ c' ≤ 9223372036854775807 ∧ ReadX encE 5 wz A' zs:=by
     rcases HI.out.own.row encE_len with ⟨rfl,h0⟩ | ⟨g,c,rfl,h1,h2,_,hr⟩
     ·subst h0
      exact ⟨none,0,rfl,Nat.le_refl _,by omega,fun h=>absurd rfl h⟩
     ·exact ⟨_,c,rfl,h1,h2,fun _=>⟨g,0,rfl,hr.lt,fun k x hk i u hu=>hr.cell k x hk i u hu⟩⟩
    obtain ⟨Z,hZ⟩ : ∃ Z,zs.length = Z:=⟨_,rfl⟩
    rw [hZ] at hv
    subst hv
    have HCe : Hid (Calm w2 wz):=HI.out.own.calm
    have HFin : Hid (ViewEnd po w.heap.size (.returned (.tuple #[.slice PA k pc,.slice A' Z c',.int .i64 0])) wz):=.inr ⟨ps,PA,pc,zs,A',c',HX.out,hes,by rw [HNp.out,hZ],HR.out.calm HCe.out,by rw [HNp.out];exact hr1,hr2,h3,fun z hz=>(HI.out.each z hz).mono HC2.out.size,h1,h2⟩
    clear hes h1 h2 h3 hZ
    go_wp2_with fail
    refine bodyPost_ret (results_tmp3 rfl _ _ _) rfl ?_
    exact ⟨HFin.out,HC2.out.trans HCe.out⟩

end Go.Proofs.YtdcdabbepnahnaaGreatDoor
set_option linter.unusedVariables false
set_option linter.unusedSimpArgs false
namespace Go.Proofs.YtdcdabbepnahnaaGreatDoor
open Go Go.RowKit Sy

theorem betP_none {par : Str} : ∀ {ps : List Pc},entsP ps = none → betP par ps = none
 |[],h=>by cases h
 |p :: r,h=>by
  unfold entsP at h
  unfold betP
  rcases he : entOfP p with _ | e
  ·rfl
  ·rw [he] at h
   simp only at h ⊢
   rw [betP_none (by simpa using h)]
   rfl
theorem betP_snoc {par : Str} : ∀ {ps : List Pc} {p : Pc} {e : Ent} {es : List Ent},betP par ps = some es → entOfP p = some e → betP par (ps ++ [p]) = some (es ++ if p.kind = 1 then [⟨e.left,storedP p.region.b par,e.hs⟩] else [])
 |[],p,e,es,h,he=>by
  obtain rfl:=Option.some.inj h
  simp only [List.nil_append]
  unfold betP
  rw [he]
  simp only [betP,Option.map_some]
 |q :: r,p,e,es,h,he=>by
  rw [List.cons_append]
  unfold betP at h ⊢
  rcases hq : entOfP q with _ | e'
  ·rw [hq] at h
   cases h
  ·rw [hq] at h
   obtain ⟨es',h1,rfl⟩:=Option.map_eq_some_iff.1 h
   simp only
   rw [betP_snoc h1 he,Option.map_some]
   by_cases hk : q.kind = 1
   ·rw [if_pos hk,if_pos hk]
    rfl
   ·rw [if_neg hk,if_neg hk]
structure BtI (B : Nat) (w0 wr : World) (v : Value) (par : Str) (ps : List Pc) (k : Nat) (zs : List NewE) : Prop where
 own : OwnX encE 5 73 w0 wr v zs
 is : betP par (ps.take k) = some (zs.map (·.e))
 each : ∀ z ∈ zs,EntN wr B z
 few : zs.length ≤ k
theorem BtI.nil {B : Nat} {w0 : World} (par : Str) (ps : List Pc) : BtI B w0 w0 (.slice none 0 0) par ps 0 []:=⟨OwnX.nil (Calm.refl _),rfl,(fun z hz=>by cases hz),Nat.le_refl _⟩
theorem BtI.skip {B : Nat} {w0 wr w2 : World} {v : Value} {par : Str} {ps : List Pc} {k : Nat} {zs : List NewE} {p : Pc} {e : Ent} (h : BtI B w0 wr v par ps k zs) (hp : ps[k]? = some p) (he : entOfP p = some e) (hk : p.kind ≠ 1) (hc : Calm wr w2) : BtI B w0 w2 v par ps (k + 1) zs:=by
 refine ⟨h.own.to hc,?_,fun z hz=>(h.each z hz).calm hc,Nat.le_succ_of_le h.few⟩
 rw [take_snoc hp,betP_snoc h.is he,if_neg hk,List.append_nil]
theorem BtI.add {B : Nat} {w0 wr w2 w3 : World} {v v2 : Value} {par : Str} {ps : List Pc} {k : Nat} {zs : List NewE} {p : Pc} {e : Ent} {y : NewE} (h : BtI B w0 wr v par ps k zs) (hp : ps[k]? = some p) (he : entOfP p = some e) (hk : p.kind = 1) (hye : y.e = ⟨e.left,storedP p.region.b par,e.hs⟩) (hc : Calm wr w2) (hy : EntN w2 B y) (hg : w2.grownBy w3 v.ownBlock) (hown : OwnX encE 5 73 w0 w3 v2 (zs ++ [y])) : BtI B w0 w3 v2 par ps (k + 1) (zs ++ [y]):=by
 refine ⟨hown,?_,fun z hz=>?_,by rw [List.length_append,List.length_singleton];have:=h.few;omega⟩
 ·rw [take_snoc hp,betP_snoc h.is he,if_pos hk,List.map_append,List.map_singleton,hye]
 ·rcases List.mem_append.1 hz with hz | hz
  ·exact ((h.each z hz).calm hc).own (by decide) (by decide) (h.own.to hc).own hg
  ·rw [List.mem_singleton] at hz
   subst hz
   exact hy.own (by decide) (by decide) (h.own.to hc).own hg
def betR (ss : List Strm) (nm : Str) : List Ent × Int:=if readyE ss nm ≠ 0 then ([],readyE ss nm) else if (strm ss ((findI ss nm).getD 0)).parent = [] then ([],87) else match betI ss ((findI ss nm).getD 0) with
 |none=>([],80)
 |some es=>(es,0)
theorem betR_bad {ss : List Strm} {nm : Str} (h : readyE ss nm ≠ 0) : betR ss nm = ([],readyE ss nm):=by unfold betR;rw [if_pos h]
theorem betR_main {ss : List Strm} {nm : Str} {i : Nat} (h : readyE ss nm = 0) (hi : findI ss nm = some i) (hp : (strm ss i).parent = []) : betR ss nm = ([],87):=by
 unfold betR
 rw [if_neg (by simpa using h),hi,Option.getD_some,if_pos hp]
theorem betR_none {ss : List Strm} {nm : Str} {i : Nat} (h : readyE ss nm = 0) (hi : findI ss nm = some i) (hp : (strm ss i).parent ≠ []) (hv : betI ss i = none) : betR ss nm = ([],80):=by
 unfold betR
 rw [if_neg (by simpa using h),hi,Option.getD_some,if_neg hp,hv]
theorem betR_some {ss : List Strm} {nm : Str} {i : Nat} {es : List Ent} (h : readyE ss nm = 0) (hi : findI ss nm = some i) (hp : (strm ss i).parent ≠ []) (hv : betI ss i = some es) : betR ss nm = (es,0):=by
 unfold betR
 rw [if_neg (by simpa using h),hi,Option.getD_some,if_neg hp,hv]
theorem parent_len {ss : List Strm} (h : Sy.Good ss) {i : Nat} (hi : i < ss.length) : (strm ss i).parent.length ≤ 24:=by
 rcases hp : parentI ss i with _ | p
 ·rw [h.parent hi hp]
  decide
 ·rw [← parent_name hp]
  exact (ownErr_zero (h.own p (parentI_lt hp))).2.1

set_option maxRecDepth 100000 in
set_option maxHeartbeats 16000000 in
theorem Between_c (ss : List Strm) (nm : Str) (A : Option Addr) (n c : Nat) (w : World) (hs : StrmsU w A ss) (hn : ss.length = n) (hnm : nm.length ≤ 1048576) (hsm : SmallSS ss) (hz : StrmsZ ss) :
  Calls Tryz.prog 17 #[.slice A n c,.string (bs nm)] w fun e w'=>EntOut (betR ss nm).1 (betR ss nm).2 w.heap.size e w' ∧ Calm w w':=by
 have hlen:=hs.len
 rw [hn] at hlen
 have hk:=find_c ss nm A n c w hs hn hnm
 have HN:=Lib.hid hn
 have HSm:=Lib.hid hsm
 have HZ:=Lib.hid hz
 clear hs hn hsm hz
 go_enter Tryz.func17,Tryz.ntmps17
 go_wp2_with fail
 refine hk.mono ?_
 rintro e w1 ⟨hend,hc1⟩
 rcases hend with ⟨x,hx0,hr,rfl⟩ | ⟨F,i,hr,hg,hfi,rfl,hf⟩
 ·have hxb : (x != 0) = true:=by simpa using hx0
  have hE : Hid (betR ss nm = ([],x)):=by
   show _ = _
   rw [betR_bad (by rw [hr];exact hx0),hr]
  clear hx0 hr hk
  go_wp2_with fail
  go_ret2
  exact ⟨by rw [hE.out];exact entOut_err x _ _,hc1⟩
 ·have hil : i < n:=by rw [← HN.out];exact findI_lt hfi
  have KV:=Lib.hid (view_c ss F A n c i w1 hf hg HSm.out HZ.out hil)
  obtain ⟨b,o,s,PA,pc,rfl,hb,hri,hat,hsu⟩:=hf.strms.get (k:=i) (by rw [HN.out];exact hil)
  have f0:=hf.c0
  have fl:=hf.lt
  have c1:=hat.c1
  have hst:=strm_at hri
  obtain ⟨pa,hpa⟩ : ∃ pa,s.parent = pa:=⟨_,rfl⟩
  rw [hpa] at c1
  have hpa2 : (strm ss i).parent = pa:=by rw [hst,hpa]
  have hpl : pa.length ≤ 24:=by
   rw [← hpa2]
   exact parent_len hg (by rw [HN.out];exact hil)
  have HOk : Hid (∀ ps,pcs ss i = some ps → ps.length ≤ 32 ∧ ∀ p ∈ ps,PcOk p ∧ PcZ p):=fun ps h=>⟨pcs_len hg h,fun p hp=>⟨(pcs_mean hg i (by rw [HN.out];exact hil) ps h).ok p hp,pcs_z hg HZ.out i (by rw [HN.out];exact hil) ps h p hp⟩⟩
  have HR:=Lib.hid (And.intro hr (And.intro hfi hpa2))
  have HC1:=Lib.hid hc1
  clear hr hfi hf hg hk hc1 hat hsu hst hri hpa hpa2
  cases pa with
  |nil=>
   have e0 : bs [] = ⟨#[]⟩:=rfl
   rw [e0] at c1
   have hE : Hid (betR ss nm = ([],87)):=betR_main HR.out.1 HR.out.2.1 HR.out.2.2
   go_wp2_with fail
   go_ret2
   exact ⟨by rw [hE.out];exact entOut_err 87 _ _,HC1.out⟩
  |cons x t=>
   have hne : (x :: t).isEmpty = false:=rfl
   obtain ⟨pa,hpa⟩ : ∃ pa,x :: t = pa:=⟨_,rfl⟩
   have hp0 : pa ≠ []:=by rw [← hpa];simp
   rw [hpa] at c1 hpl hne HR
   have HP0:=Lib.hid hp0
   clear hpa hp0
   go_wp2_with fail
   refine KV.out.mono ?_
   rintro e w2 ⟨hE,hc2⟩
   have HC2:=Lib.hid hc2
   clear hc2 KV f0 fl c1 hb
   rcases hE with ⟨hx,rfl⟩ | ⟨ps,PA,pc,zs,A',c',hx,hes,rfl,hR,hr1,hr2,h3,h4,h5,h6⟩
   ·have hE : Hid (betR ss nm = ([],80)):=betR_none HR.out.1 HR.out.2.1 (by rw [HR.out.2.2];exact HP0.out) (by
     unfold betI
     rcases hx with hx | ⟨ps,hx,h⟩
     ·rw [hx]
     ·rw [hx]
      exact betP_none h)
    clear hx
    go_wp2_with fail
    go_ret2
    exact ⟨by rw [hE.out];exact entOut_err 80 _ _,HC1.out.trans HC2.out⟩
   ·obtain ⟨np,hnp⟩ : ∃ np,ps.length = np:=⟨_,rfl⟩
    have hzl : zs.length = np:=by
     have:=(entsP_at hes).1
     rw [List.length_map,hnp] at this
     exact this
    rw [hnp] at hr1 ⊢
    rw [hzl] at h5 ⊢
    have h32 : np ≤ 32:=by
     rw [← hnp]
     exact (HOk.out ps hx).1
    have HNp:=Lib.hid (And.intro hnp hzl)
    have HPs:=Lib.hid (HOk.out ps hx).2
    have HRd:=Lib.hid hR
    have HEs : Hid (∀ (k : Nat) p y,ps[k]? = some p → zs[k]? = some y → entOfP p = some y.e):=fun k p y hp hy=>by
     obtain ⟨e,he,h⟩:=(entsP_at hes).2 k p hp
     rw [List.getElem?_map,hy] at he
     obtain rfl : y.e = e:=by simpa using he
     exact h
    have HEz:=Lib.hid (And.intro h3 h4)
    have HX : Hid (pcs ss i = some ps):=hx
    have HP16 : pa.length ≤ 16384:=by omega
    clear hx hes hR h3 h4 hnp hzl
    go_wp2_with fail
    go_loopw [12,48] (fun v u wr=>∃ (k : Nat) (ys : List NewE),k ≤ np ∧ u = .int .i64 k ∧ Hid (BtI w1.heap.size w2 wr v pa ps k ys)) (fun _ u _=>np - (intOf u).toNat)
    case atStart=>exact ⟨0,[],Nat.zero_le _,rfl,BtI.nil pa ps⟩
    case round=>
     obtain ⟨k,ys,hk,rfl,HI⟩:=hrel
     obtain ⟨wz,rfl⟩ : ∃ wz,wz = wr:=⟨_,rfl⟩
     by_cases hlt : k < np
     ·obtain ⟨bu,ou,z,rfl,hbu,hzm,hz9,hza⟩:=HRd.out.get (k:=k) (by rw [HNp.out.1];exact hlt)
      obtain ⟨gb,hgb⟩ : ∃ gb,z.p.region.b.parts.length = gb:=⟨_,rfl⟩
      obtain ⟨gr,hgr⟩ : ∃ gr,z.p.region.b.rest = gr:=⟨_,rfl⟩
      obtain ⟨gk,hgk⟩ : ∃ gk,z.p.region.hs.length = gk:=⟨_,rfl⟩
      obtain ⟨pk,hpk⟩ : ∃ pk,z.p.kind = pk:=⟨_,rfl⟩
      obtain ⟨ex,hex⟩ : ∃ ex,z.p.line.excl = ex:=⟨_,rfl⟩
      obtain ⟨il,hil⟩ : ∃ il,z.p.line.left.parts.length = il:=⟨_,rfl⟩
      obtain ⟨lr,hlr⟩ : ∃ lr,z.p.line.left.rest = lr:=⟨_,rfl⟩
      obtain ⟨ir,hir⟩ : ∃ ir,z.p.line.right.parts.length = ir:=⟨_,rfl⟩
      obtain ⟨rr,hrr⟩ : ∃ rr,z.p.line.right.rest = rr:=⟨_,rfl⟩
      have cw:=HI.out.own.calm
      have x0:=Calm.at_ cw hz9.c0 hbu
      have x1:=Calm.at_ cw hz9.c1 hbu
      have x2:=Calm.at_ cw hz9.c2 hbu
      have x3:=Calm.at_ cw hz9.c3 hbu
      have x4:=Calm.at_ cw hz9.c4 hbu
      have x5:=Calm.at_ cw hz9.c5 hbu
      have x6:=Calm.at_ cw hz9.c6 hbu
      have x7:=Calm.at_ cw hz9.c7 hbu
      have x8:=Calm.at_ cw hz9.c8 hbu
      rw [hgb] at x0
      rw [hgr] at x1
      rw [hgk] at x2
      rw [hpk] at x3
      rw [hex] at x4
      rw [hil] at x5
      rw [hlr] at x6
      rw [hir] at x7
      rw [hrr] at x8
      have hbu:=Nat.lt_of_lt_of_le hbu cw.size
      -- the entry
      have hky : k < zs.length:=by rw [HNp.out.2];exact hlt
      obtain ⟨y,hy⟩ : ∃ y,zs[k]? = some y:=⟨_,List.getElem?_eq_getElem hky⟩
      obtain ⟨be,oe,rfl,hbe,hce⟩:=HEz.out.1 (fun e=>by rw [e] at hky;simp at hky)
      obtain ⟨q1,hq1⟩ : ∃ q1,y.e.left.parts.length = q1:=⟨_,rfl⟩
      obtain ⟨q2,hq2⟩ : ∃ q2,y.e.left.rest = q2:=⟨_,rfl⟩
      obtain ⟨q3,hq3⟩ : ∃ q3,y.e.right.parts.length = q3:=⟨_,rfl⟩
      obtain ⟨q4,hq4⟩ : ∃ q4,y.e.right.rest = q4:=⟨_,rfl⟩
      obtain ⟨q5,hq5⟩ : ∃ q5,y.e.hs.length = q5:=⟨_,rfl⟩
      have y0:=Calm.at_ cw (hce k y hy 0 _ rfl) hbe
      have y1:=Calm.at_ cw (hce k y hy 1 _ rfl) hbe
      have y2:=Calm.at_ cw (hce k y hy 2 _ rfl) hbe
      have y3:=Calm.at_ cw (hce k y hy 3 _ rfl) hbe
      have y4:=Calm.at_ cw (hce k y hy 4 _ rfl) hbe
      rw [hq1] at y0
      rw [hq2] at y1
      rw [hq3] at y2
      rw [hq4] at y3
      rw [hq5] at y4
      rw [Nat.add_zero] at y0
      have hbe:=Nat.lt_of_lt_of_le hbe cw.size
      have HYe : Hid (EntN wz w2.heap.size y ∨ True):=.inr trivial
      have HYn:=Lib.hid (HEz.out.2 y (List.mem_of_getElem? hy))
      have HEp:=Lib.hid (HEs.out k z.p y hzm hy)
      have HZm:=Lib.hid hzm
      have hpo:=HPs.out z.p (List.mem_of_getElem? hzm)
      have HPo:=Lib.hid hpo
      have HZa : Hid (PcA wz z):=hza.calm cw
      have HZN : Hid (z.p.region.b.parts.length = gb ∧ z.p.region.b.rest = gr ∧ z.p.kind = pk):=⟨hgb,hgr,hpk⟩
      have HQ:=Lib.hid (And.intro hq1 (And.intro hq2 (And.intro hq3 (And.intro hq4 hq5))))
      have hgb0 : 0 < gb:=by
       rw [← hgb]
       exact pat_pos (gErr_zero hpo.1.g).1
      clear cw hz9 hza hzm hpo hgb hgr hgk hpk hex hil hlr hir hrr hq1 hq2 hq3 hq4 hq5 hce hy hky HYe
      by_cases hk1 : pk = 1
      ·subst hk1
       go_upto_region 16 with (fail)
       obtain ⟨w4,hw4⟩ : ∃ w4,w4 = (wz.alloc (.cells #[.slice z.A gb z.c,.bool gr,.slice z.HA gk z.hc,.int .i64 1,.bool ex,.slice z.a.AL il z.a.cl,.bool lr,.slice z.a.AR ir z.a.cr,.bool rr] 95)).alloc (.cells #[.slice y.LA q1 y.lc,.bool q2,.slice y.RA q3 y.rc,.bool q4,.slice y.HA q5 y.hc] 73):=⟨_,rfl⟩
       obtain ⟨B14,e14⟩ : ∃ B14,wz.heap.size = B14:=⟨_,rfl⟩
       obtain ⟨B15,e15⟩ : ∃ B15,B14 + 1 = B15:=⟨_,rfl⟩
       have hc4 : Calm wz w4:=by
        show Below _ _ _
        rw [hw4]
        exact ((Calm.refl _).alloc _).alloc _
       have h14 : CellsB w4 B14 [.slice z.A gb z.c,.bool gr,.slice z.HA gk z.hc,.int .i64 1,.bool ex,.slice z.a.AL il z.a.cl,.bool lr,.slice z.a.AR ir z.a.cr,.bool rr]:=by
        rw [hw4,← e14]
        exact (CellsB.new wz _ _).calm ((Calm.refl _).alloc _)
       have h15 : CellsB w4 B15 [.slice y.LA q1 y.lc,.bool q2,.slice y.RA q3 y.rc,.bool q4,.slice y.HA q5 y.hc]:=by
        rw [hw4,← e15,← e14]
        have:=CellsB.new (wz.alloc (.cells #[.slice z.A gb z.c,.bool gr,.slice z.HA gk z.hc,.int .i64 1,.bool ex,.slice z.a.AL il z.a.cl,.bool lr,.slice z.a.AR ir z.a.cr,.bool rr] 95)) #[.slice y.LA q1 y.lc,.bool q2,.slice y.RA q3 y.rc,.bool q4,.slice y.HA q5 y.hc] 73
        rwa [World.size_alloc] at this
       rw [← hw4]
       simp only [e14,e15]
       have HC4:=Lib.hid hc4
       have H15:=Lib.hid h15
       have HB15 : Hid (wz.heap.size ≤ B15 ∧ B15 < w4.heap.size):=⟨by omega,h15.lt⟩
       have g0:=h14.at_ 0 _ rfl
       have g1:=h14.at_ 1 _ rfl
       have l14:=h14.lt
       have KS:=Lib.hid (stored_c z.p.region.b pa z.A gb z.c gr w4 ((HZa.out.g.calm hc4).base) HZN.out.1 HZN.out.2.1 HP16 hgb0)
       clear hw4 e14 e15 hc4 h14 h15 x0 x1 x2 x3 x4 x5 x6 x7 x8 y0 y1 y2 y3 y4
       go_wp2_with fail
       refine KS.out.mono ?_
       rintro e w5 ⟨⟨A2,c2,rfl,hN2⟩,hc5⟩
       have h15:=H15.out.calm hc5
       have HC5 : Hid (Calm w4 w5):=hc5
       have HN2:=Lib.hid hN2
       have z0:=h15.at_ 0 _ rfl
       have z1:=h15.at_ 1 _ rfl
       have z2:=h15.at_ 2 _ rfl
       have z3:=h15.at_ 3 _ rfl
       have z4:=h15.at_ 4 _ rfl
       have f2:=h15.fz 2
       have f3:=h15.fz 3
       have l15:=h15.lt
       clear h15 hc5 hN2 g0 g1 l14 KS
       go_upto_region 17 with (fail)
       obtain ⟨w7,hw7⟩ : ∃ w7,w7 = (w5.setCell ⟨B15,2,none⟩ (.slice A2 gb c2)).setCell ⟨B15,3,none⟩ (.bool gr):=⟨_,rfl⟩
       have HC7 : Hid (Calm wz w7):=by
        show Below _ _ _
        rw [hw7]
        exact Below.setCell (p:=⟨B15,3,none⟩) (Below.setCell (p:=⟨B15,2,none⟩) (HC4.out.trans HC5.out) HB15.out.1 _) HB15.out.1 _
       have r0 : w7.cell? ⟨B15,0,none⟩ = some (.slice y.LA q1 y.lc):=by rw [hw7,World.cell?_setCell_other _ _ _ _ (by simp),World.cell?_setCell_other _ _ _ _ (by simp)];exact z0
       have r1 : w7.cell? ⟨B15,1,none⟩ = some (.bool q2):=by rw [hw7,World.cell?_setCell_other _ _ _ _ (by simp),World.cell?_setCell_other _ _ _ _ (by simp)];exact z1
       have r2 : w7.cell? ⟨B15,2,none⟩ = some (.slice A2 gb c2):=by
        rw [hw7,World.cell?_setCell_other _ _ _ _ (by simp)]
        exact World.cell?_setCell_same' _ _ _ (by rw [z2];rfl)
       have r3 : w7.cell? ⟨B15,3,none⟩ = some (.bool gr):=by
        rw [hw7]
        exact World.cell?_setCell_same' _ _ _ (by rw [World.cell?_setCell_other _ _ _ _ (by simp),z3];rfl)
       have r4 : w7.cell? ⟨B15,4,none⟩ = some (.slice y.HA q5 y.hc):=by rw [hw7,World.cell?_setCell_other _ _ _ _ (by simp),World.cell?_setCell_other _ _ _ _ (by simp)];exact z4
       have hN7 : NewS w7 w4.heap.size A2 c2 (storedP z.p.region.b pa).parts:=by
        rw [hw7]
        exact (HN2.out.set (p:=⟨B15,2,none⟩) _ HB15.out.2).set (p:=⟨B15,3,none⟩) _ HB15.out.2
       have HEN : Hid (EntN w7 w1.heap.size ⟨y.LA,y.lc,A2,c2,y.HA,y.hc,⟨y.e.left,storedP z.p.region.b pa,y.e.hs⟩⟩):=by
        have hy:=HYn.out.calm (HI.out.own.calm.trans HC7.out)
        refine ⟨hy.l,⟨hN7.mono (HC2.out.trans (HI.out.own.calm.trans HC4.out)).size,?_,fun l hl=>?_⟩,hy.h,hy.few⟩
        ·show (z.p.region.b.parts.set 0 pa).length ≤ 16384
         rw [List.length_set]
         have:=pat_few (gErr_zero HPo.out.1.g).1
         omega
        ·have:=stored_let HPo.out.2.b (n:=pa) (by omega) l hl
         omega
       have HQ2 : Hid ((storedP z.p.region.b pa).parts.length = gb ∧ (storedP z.p.region.b pa).rest = gr):=⟨by
        show (z.p.region.b.parts.set 0 pa).length = gb
        rw [List.length_set]
        exact HZN.out.1,HZN.out.2.1⟩
       have lt15 : B15 < w7.heap.size:=by
        rw [hw7]
        simpa using l15
       have hyl:=HI.out.few
       rw [← hw7]
       clear hw7 hN7 z0 z1 z2 z3 z4 f2 f3 l15
       go_wp2_with (at_builtin;refine wpList_append_xs (enc:=encE) (K:=5) (T:=73) Tryz.underlying25 info_ent rfl (by decide) (by decide) encE_len encE_one rfl (.tmp 66) (.tmp 68) rfl w2 _ ys [⟨y.LA,y.lc,A2,c2,y.HA,y.hc,⟨y.e.left,storedP z.p.region.b pa,y.e.hs⟩⟩] rfl (HI.out.own.to (HC7.out.trans ((Calm.refl _).alloc _))) _ 1 1 rfl rfl (read_newE ⟨y.LA,y.lc,A2,c2,y.HA,y.hc,⟨y.e.left,storedP z.p.region.b pa,y.e.hs⟩⟩ rfl HQ.out.1 HQ.out.2.1 HQ2.out.1 HQ2.out.2 HQ.out.2.2.2.2) (by omega) ?_;intro v8 w8 hown8 hg8)
       have HRel:=Lib.hid (HI.out.add (y:=⟨y.LA,y.lc,A2,c2,y.HA,y.hc,⟨y.e.left,storedP z.p.region.b pa,y.e.hs⟩⟩) HZm.out HEp.out HZN.out.2.2 rfl (HC7.out.trans ((Calm.refl _).alloc _)) (HEN.out.calm ((Calm.refl _).alloc _)) hg8 hown8)
       go_roundw
       case rel=>exact ⟨k + 1,ys ++ [(⟨y.LA,y.lc,A2,c2,y.HA,y.hc,⟨y.e.left,storedP z.p.region.b pa,y.e.hs⟩⟩ : NewE)],by omega,by go_num,HRel⟩
       case measure=>simp [intOf];omega
      ·have hkb1 : (pk == 1) = false:=by simpa using hk1
       have HRel:=Lib.hid (HI.out.skip HZm.out HEp.out (by rw [HZN.out.2.2];exact hk1) ((Calm.refl _).alloc (.cells #[.slice z.A gb z.c,.bool gr,.slice z.HA gk z.hc,.int .i64 pk,.bool ex,.slice z.a.AL il z.a.cl,.bool lr,.slice z.a.AR ir z.a.cr,.bool rr] 95)))
       go_wp2_with fail
       go_roundw
       case rel=>exact ⟨k + 1,ys,by omega,by go_num,HRel⟩
       case measure=>simp [intOf];omega
     ·obtain rfl : k = np:=by omega
      have hes : betP pa ps = some (ys.map (·.e)):=by
       have:=HI.out.is
       rw [List.take_of_length_le (by rw [HNp.out.1];exact Nat.le_refl _)] at this
       exact this
      have hbi : betR ss nm = (ys.map (·.e),0):=betR_some HR.out.1 HR.out.2.1 (by rw [HR.out.2.2];exact HP0.out) (by
       unfold betI
       rw [HX.out,HR.out.2.2]
       exact hes)
      obtain ⟨A',c',hv,h1,h2,h3⟩ : ∃ A' c',u12 = .slice A' ys.length c' ∧ ys.length ≤ c' ∧ c' ≤ 9223372036854775807 ∧ ReadX encE 5 wz A' ys:=by
       rcases HI.out.own.row encE_len with ⟨rfl,h0⟩ | ⟨g,c,rfl,h1,h2,_,hr⟩
       ·subst h0
        exact ⟨none,0,rfl,Nat.le_refl _,by omega,fun h=>absurd rfl h⟩
       ·exact ⟨_,c,rfl,h1,h2,fun _=>⟨g,0,rfl,hr.lt,fun k x hk i u hu=>hr.cell k x hk i u hu⟩⟩
      obtain ⟨Z,hZ⟩ : ∃ Z,ys.length = Z:=⟨_,rfl⟩
      rw [hZ] at hv
      subst hv
      have HCe : Hid (Calm w2 wz):=HI.out.own.calm
      have HFin : Hid (EntOut (betR ss nm).1 (betR ss nm).2 w.heap.size (.returned (.tuple #[.slice A' Z c',.int .i64 0])) wz):=by
       show EntOut _ _ _ _ _
       rw [hbi]
       exact ⟨A',c',by rw [List.length_map,hZ],by rw [List.length_map];exact h1,h2,ys,rfl,h3,fun z hz=>(HI.out.each z hz).mono HC1.out.size⟩
      clear hes hbi h1 h2 h3 hZ
      go_wp2_with fail
      go_ret2
      exact ⟨HFin.out,HC1.out.trans (HC2.out.trans HCe.out)⟩
end Go.Proofs.YtdcdabbepnahnaaGreatDoor
