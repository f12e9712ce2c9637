/- Walks: lines and views with their sides exchanged (written by program: gen_turnv.py). -/
import Derived.Deep.RegionLaw
import Derived.Deep.RegionHeld3
import Derived.Test.YthopphabeddnfaaGreatDoorZStr
import Derived.Test.YthopphabeddnfaaGreatDoorZViewF
import Derived.Test.YthopphabeddnfaaGreatDoorZCopyP
import Derived.Test.YthopphabeddnfaaGreatDoorZKinds
set_option linter.unusedVariables false
set_option linter.unusedSimpArgs false
namespace Go.Proofs.YthopphabeddnfaaGreatDoor
open Go Go.RowKit Sy

end Go.Proofs.YthopphabeddnfaaGreatDoor
set_option linter.unusedVariables false
set_option linter.unusedSimpArgs false
namespace Go.Proofs.YthopphabeddnfaaGreatDoor
open Go Go.RowKit Sy

end Go.Proofs.YthopphabeddnfaaGreatDoor
set_option linter.unusedVariables false
set_option linter.unusedSimpArgs false
namespace Go.Proofs.YthopphabeddnfaaGreatDoor
open Go Go.RowKit Sy

end Go.Proofs.YthopphabeddnfaaGreatDoor
set_option linter.unusedVariables false
set_option linter.unusedSimpArgs false
namespace Go.Proofs.YthopphabeddnfaaGreatDoor
open Go Go.RowKit Sy

theorem info_rule : (Tryz.prog.info? 44).map (fun i=>(i.zero,i.size,i.bytes)) = some (some (.agg #[.bool false,.slice none 0 0,.bool false,.slice none 0 0,.bool false]),5,72):=by kernel_rfl

def cell5 (x : Pl × Rule) : List Value:=[.bool x.2.excl,.slice x.1.AL x.2.left.parts.length x.1.cl,.bool x.2.left.rest,.slice x.1.AR x.2.right.parts.length x.1.cr,.bool x.2.right.rest]
def cells5 : List (Pl × Rule) → List Value
 |[]=>[]
 |x :: t=>cell5 x ++ cells5 t
theorem cells5_len : ∀ l : List (Pl × Rule),(cells5 l).length = l.length * 5
 |[]=>rfl
 |x :: t=>by
  rw [cells5,List.length_append,cells5_len t,List.length_cons,Nat.succ_mul,Nat.add_comm]
  rfl
theorem cells5_app : ∀ l m : List (Pl × Rule),cells5 (l ++ m) = cells5 l ++ cells5 m
 |[],m=>rfl
 |x :: t,m=>by
  rw [List.cons_append,cells5,cells5,cells5_app t m,List.append_assoc]
theorem cells5_get : ∀ (l : List (Pl × Rule)) (j : Nat) (u : Value),(cells5 l)[j]? = some u → ∃ k x i,l[k]? = some x ∧ i < 5 ∧ j = k * 5 + i ∧ (cell5 x)[i]? = some u
 |[],j,u,h=>by simp [cells5] at h
 |x :: t,j,u,h=>by
  rw [cells5] at h
  by_cases hj : j < 5
  ·rw [List.getElem?_append_left (by exact hj)] at h
   exact ⟨0,x,j,rfl,hj,by omega,h⟩
  ·rw [List.getElem?_append_right (by show 5 ≤ j;omega)] at h
   obtain ⟨k,y,i,h1,h2,h3,h4⟩:=cells5_get t (j - 5) u h
   exact ⟨k + 1,y,i,by simpa using h1,h2,by omega,h4⟩
theorem cells5_at : ∀ (l : List (Pl × Rule)) (k i : Nat) (x : Pl × Rule),l[k]? = some x → i < 5 → (cells5 l)[k * 5 + i]? = (cell5 x)[i]?
 |[],k,i,x,h,_=>by simp at h
 |y :: t,0,i,x,h,hi=>by
  simp only [List.getElem?_cons_zero,Option.some.injEq] at h
  subst h
  rw [cells5,Nat.zero_mul,Nat.zero_add,List.getElem?_append_left (by exact hi)]
 |y :: t,k + 1,i,x,h,hi=>by
  rw [cells5,List.getElem?_append_right (by show 5 ≤ _;omega)]
  have:=cells5_at t k i x (by simpa using h) hi
  rw [← this]
  congr 1
  show (k + 1) * 5 + i - 5 = _
  omega
theorem cell5_one {x : Pl × Rule} {i : Nat} {u : Value} (h : (cell5 x)[i]? = some u) : u.oneCell' = true:=by
 match i,h with
 |0,h=>cases h;rfl
 |1,h=>cases h;rfl
 |2,h=>cases h;rfl
 |3,h=>cases h;rfl
 |4,h=>cases h;rfl
 |i + 5,h=>simp [cell5] at h
theorem RulesU.cells {w : World} {A : Option Addr} {rs : List Rule} (h : RulesU w A rs) : ∃ l : List (Pl × Rule),l.map (·.2) = rs ∧ (∀ x ∈ l,RuleU w x.1 x.2) ∧ (l ≠ [] → ∃ b o,A = some ⟨b,o,none⟩ ∧ ∀ j u,(cells5 l)[j]? = some u → w.cell? ⟨b,o + j,none⟩ = some u):=by
 by_cases h0 : 0 < rs.length
 ·obtain ⟨b,o,hA,hb,hk⟩:=h.at_ h0
  have hch : ∀ k : Fin rs.length,∃ a,RuleAt w b (o + k * 5) a rs[k] ∧ RuleU w a rs[k]:=fun k=>hk k rs[k] (List.getElem?_eq_getElem k.2)
  refine ⟨(List.finRange rs.length).map fun k=>((hch k).choose,rs[k]),?_,?_,fun _=>⟨b,o,hA,fun j u hj=>?_⟩⟩
  ·rw [List.map_map]
   apply List.ext_getElem
   ·simp
   ·intro i h1 h2
    simp
  ·intro x hx
   obtain ⟨k,_,rfl⟩:=List.mem_map.1 hx
   exact (hch k).choose_spec.2
  ·obtain ⟨k,x,i,h1,h2,rfl,h4⟩:=cells5_get _ j u hj
   rw [List.getElem?_map] at h1
   obtain ⟨q,hq,rfl⟩:=Option.map_eq_some_iff.1 h1
   obtain ⟨hlt,he⟩:=List.getElem?_eq_some_iff.1 hq
   have hqk : (q : Nat) = k:=by rw [← he];simp
   have hat:=(hch q).choose_spec.1
   subst hqk
   match i,h4 with
   |0,h4=>cases h4;exact hat.c0
   |1,h4=>cases h4;exact hat.c1
   |2,h4=>cases h4;exact hat.c2
   |3,h4=>cases h4;exact hat.c3
   |4,h4=>cases h4;exact hat.c4
   |i + 5,h4=>omega
 ·have : rs = []:=List.eq_nil_of_length_eq_zero (by omega)
  subst this
  exact ⟨([] : List (Pl × Rule)),rfl,fun x hx=>absurd hx List.not_mem_nil,fun h=>absurd rfl h⟩

structure OwnR (w0 w : World) (v : Value) (l : List (Pl × Rule)) : Prop where
 calm : Calm w0 w
 own : w.ownsRow w0.heap.size 44 5 v l.length (cells5 l)
theorem OwnR.nil {w0 w : World} (h : Calm w0 w) : OwnR w0 w (.slice none 0 0) []:=⟨h,World.ownsRow_nil _ _ _ _⟩
theorem OwnR.to {w0 w w' : World} {v : Value} {l : List (Pl × Rule)} (h : OwnR w0 w v l) (hc : Calm w w') : OwnR w0 w' v l:=⟨h.calm.trans hc,owns_calm h.own hc⟩
theorem OwnR.rules {w0 w : World} {v : Value} {l : List (Pl × Rule)} (h : OwnR w0 w v l) (hl : l.length ≤ 1048577) (hu : ∀ x ∈ l,RuleU w x.1 x.2) : ∃ A c,v = .slice A l.length c ∧ RulesU w A (l.map (·.2)):=by
 have hlen : (l.map (·.2)).length = l.length:=List.length_map _
 rcases h.own.2 with ⟨rfl,h0⟩ | ⟨g,cap,cur,rfl,hg,hh,hcap,hm,hs,ht⟩
 ·exact ⟨none,0,by rw [h0],by rw [hlen];exact hl,fun h=>by rw [hlen,h0] at h;omega⟩
 ·have hlt : g < w.heap.size:=by
   rcases Nat.lt_or_ge g w.heap.size with h | h
   ·exact h
   ·rw [Array.getElem?_eq_none h] at hh;cases hh
  refine ⟨_,cap,rfl,by rw [hlen];exact hl,fun _=>⟨g,0,rfl,hlt,fun k r hr=>?_⟩⟩
  rw [List.getElem?_map] at hr
  obtain ⟨x,hx,rfl⟩:=Option.map_eq_some_iff.1 hr
  have hc : ∀ i u,i < 5 → (cell5 x)[i]? = some u → w.cell? ⟨g,0 + k * 5 + i,none⟩ = some u:=fun i u hi hu=>by
   have h1:=h.own.cells (g:=g) rfl (k * 5 + i) u (by rw [cells5_at l k i x hx hi];exact hu)
   simpa [Addr.add_lit] using h1
  exact ⟨x.1,⟨hc 0 _ (by omega) rfl,hc 1 _ (by omega) rfl,hc 2 _ (by omega) rfl,hc 3 _ (by omega) rfl,hc 4 _ (by omega) rfl⟩,hu x (List.mem_of_getElem? hx)⟩

theorem OwnR.one {w : World} {n : Nat} (x : Pl × Rule) (h : w.heap.size = n) : OwnR w (w.alloc (.cells #[.bool x.2.excl,.slice x.1.AL x.2.left.parts.length x.1.cl,.bool x.2.left.rest,.slice x.1.AR x.2.right.parts.length x.1.cr,.bool x.2.right.rest] 44)) (.slice (some ⟨n,0,none⟩) 1 1) [x]:=by
 subst h
 refine ⟨(Calm.refl w).alloc _,?_⟩
 have:=World.ownsRow_lit (base:=w.heap.size) (e:=44) (size:=5) w #[.bool x.2.excl,.slice x.1.AL x.2.left.parts.length x.1.cl,.bool x.2.left.rest,.slice x.1.AR x.2.right.parts.length x.1.cr,.bool x.2.right.rest] 1 (Nat.le_refl _) (by decide) rfl
 simpa [cells5,cell5] using this
end Go.Proofs.YthopphabeddnfaaGreatDoor
set_option linter.unusedVariables false
set_option linter.unusedSimpArgs false
namespace Go.Proofs.YthopphabeddnfaaGreatDoor
open Go Go.RowKit Sy

end Go.Proofs.YthopphabeddnfaaGreatDoor
set_option linter.unusedVariables false
set_option linter.unusedSimpArgs false
namespace Go.Proofs.YthopphabeddnfaaGreatDoor
open Go Go.RowKit Sy

def TurnEnd (r : Rule) (B : Nat) (e : Ending) (w' : World) : Prop:=∃ a,e = .returned (ruleV a r.turn) ∧ RuleN w' B a r.turn
structure BoxT (w1 : World) (B : Nat) (a : Pl) (nl nr : Nat) (lr rr ex : Bool) : Prop where
 size : w1.heap.size = B + 2
 c0 : w1.cell? ⟨B,0,none⟩ = some (.bool ex)
 c1 : w1.cell? ⟨B,1,none⟩ = some (.slice a.AL nl a.cl)
 c2 : w1.cell? ⟨B,2,none⟩ = some (.bool lr)
 c3 : w1.cell? ⟨B,3,none⟩ = some (.slice a.AR nr a.cr)
 c4 : w1.cell? ⟨B,4,none⟩ = some (.bool rr)
 d0 : w1.cell? ⟨B + 1,0,none⟩ = some (.bool false)
 d1 : w1.cell? ⟨B + 1,1,none⟩ = some (.slice none 0 0)
 d2 : w1.cell? ⟨B + 1,2,none⟩ = some (.bool false)
 d3 : w1.cell? ⟨B + 1,3,none⟩ = some (.slice none 0 0)
 d4 : w1.cell? ⟨B + 1,4,none⟩ = some (.bool false)
 f : ∀ o,w1.frozen? ⟨B + 1,o,none⟩ = false
theorem BoxT.S {w1 w2 : World} {B : Nat} {a : Pl} {nl nr : Nat} {lr rr ex : Bool} (h : BoxT w1 B a nl nr lr rr ex) (hc : Below (B + 1) w1 w2) : Below (B + 1) w1 w2 ∧ w2.cell? ⟨B,0,none⟩ = some (.bool ex) ∧ w2.cell? ⟨B,1,none⟩ = some (.slice a.AL nl a.cl) ∧ w2.cell? ⟨B,2,none⟩ = some (.bool lr) ∧ w2.cell? ⟨B,3,none⟩ = some (.slice a.AR nr a.cr) ∧ w2.cell? ⟨B,4,none⟩ = some (.bool rr):=
 ⟨hc,(hc.cell (p:=⟨B,0,none⟩) (Nat.lt_succ_self B)).trans h.c0,(hc.cell (p:=⟨B,1,none⟩) (Nat.lt_succ_self B)).trans h.c1,(hc.cell (p:=⟨B,2,none⟩) (Nat.lt_succ_self B)).trans h.c2,(hc.cell (p:=⟨B,3,none⟩) (Nat.lt_succ_self B)).trans h.c3,(hc.cell (p:=⟨B,4,none⟩) (Nat.lt_succ_self B)).trans h.c4⟩
theorem BoxT.low {w1 w2 : World} {B : Nat} {a : Pl} {nl nr : Nat} {lr rr ex : Bool} (h : BoxT w1 B a nl nr lr rr ex) (hc : Calm w1 w2) : Below (B + 1) w1 w2:=hc.mono (by rw [h.size];omega)
structure RoomT (w2 : World) (B : Nat) : Prop where
 d0 : w2.cell? ⟨B + 1,0,none⟩ = some (.bool false)
 d1 : w2.cell? ⟨B + 1,1,none⟩ = some (.slice none 0 0)
 d2 : w2.cell? ⟨B + 1,2,none⟩ = some (.bool false)
 d3 : w2.cell? ⟨B + 1,3,none⟩ = some (.slice none 0 0)
 d4 : w2.cell? ⟨B + 1,4,none⟩ = some (.bool false)
 f : ∀ o,w2.frozen? ⟨B + 1,o,none⟩ = false
theorem BoxT.room {w1 w2 : World} {B : Nat} {a : Pl} {nl nr : Nat} {lr rr ex : Bool} (h : BoxT w1 B a nl nr lr rr ex) (hc : Calm w1 w2) : RoomT w2 B:=by
 have h1 : B + 1 < w1.heap.size:=by rw [h.size];omega
 exact ⟨hc.at_ h.d0 h1,hc.at_ h.d1 h1,hc.at_ h.d2 h1,hc.at_ h.d3 h1,hc.at_ h.d4 h1,fun o=>(hc.frozen (p:=⟨B + 1,o,none⟩) h1).trans (h.f o)⟩
theorem NewS.setT {w : World} {B : Nat} {A : Option Addr} {c : Nat} {ls : List Str} (h : NewS w (B + 2) A c ls) (u0 u1 u2 u3 u4 : Value) : NewS (((((w.setCell ⟨B + 1,0,none⟩ u0).setCell ⟨B + 1,1,none⟩ u1).setCell ⟨B + 1,2,none⟩ u2).setCell ⟨B + 1,3,none⟩ u3).setCell ⟨B + 1,4,none⟩ u4) B A c ls:=
 (((((h.set (p:=⟨B + 1,0,none⟩) u0 (Nat.lt_succ_self _)).set (p:=⟨B + 1,1,none⟩) u1 (Nat.lt_succ_self _)).set (p:=⟨B + 1,2,none⟩) u2 (Nat.lt_succ_self _)).set (p:=⟨B + 1,3,none⟩) u3 (Nat.lt_succ_self _)).set (p:=⟨B + 1,4,none⟩) u4 (Nat.lt_succ_self _)).mono (by omega)
end Go.Proofs.YthopphabeddnfaaGreatDoor
set_option linter.unusedVariables false
set_option linter.unusedSimpArgs false
namespace Go.Proofs.YthopphabeddnfaaGreatDoor
open Go Go.RowKit Sy

theorem copy_v (p : Pat) (A : Option Addr) (n c : Nat) (re : Bool) (w : World) (hr : StrsU w A p.parts) (hn : p.parts.length = n) (hre : p.rest = re) :
  Calls Tryz.prog 17 #[.agg #[.slice A n c,.bool re]] w fun e w'=>(∃ A2 c2,e = .returned (.agg #[.slice A2 n c2,.bool re]) ∧ NewS w' w.heap.size A2 c2 p.parts) ∧ Calm w w':=by
 subst hn hre
 exact copy_c p A c w hr

set_option maxHeartbeats 8000000 in
theorem turn_c (r : Rule) (a : Pl) (w : World) (hr : RuleU w a r) :
  Calls Tryz.prog 56 #[ruleV a r] w fun e w'=>TurnEnd r w.heap.size e w' ∧ Calm w w':=by
 obtain ⟨nl,hnl⟩ : ∃ nl,r.left.parts.length = nl:=⟨_,rfl⟩
 obtain ⟨nr,hnr⟩ : ∃ nr,r.right.parts.length = nr:=⟨_,rfl⟩
 obtain ⟨lr,hlr⟩ : ∃ lr,r.left.rest = lr:=⟨_,rfl⟩
 obtain ⟨rr,hrr⟩ : ∃ rr,r.right.rest = rr:=⟨_,rfl⟩
 obtain ⟨ex,hex⟩ : ∃ ex,r.excl = ex:=⟨_,rfl⟩
 obtain ⟨w1,hw1⟩ : ∃ w1,w1 = (w.alloc (.cells #[.bool ex,.slice a.AL nl a.cl,.bool lr,.slice a.AR nr a.cr,.bool rr] 44)).alloc (.cells #[.bool false,.slice none 0 0,.bool false,.slice none 0 0,.bool false] 44):=⟨_,rfl⟩
 have hc1 : Calm w w1:=by rw [hw1];exact ((Calm.refl w).alloc _).alloc _
 have hbox : BoxT w1 w.heap.size a nl nr lr rr ex:=by
  rw [hw1]
  exact ⟨by simp,by simp,by simp,by simp,by simp,by simp,by simp,by simp,by simp,by simp,by simp,fun o=>by simp⟩
 have KR : Hid (∀ W,Calm w1 W → Calls Tryz.prog 17 #[.agg #[.slice a.AR nr a.cr,.bool rr]] W fun e w'=>(∃ A2 c2,e = .returned (.agg #[.slice A2 nr c2,.bool rr]) ∧ NewS w' W.heap.size A2 c2 r.right.parts) ∧ Calm W w'):=fun W hW=>copy_v r.right a.AR nr a.cr rr W ((hr.calm hc1).calm hW).rr hnr hrr
 have KL : Hid (∀ W,Calm w1 W → Calls Tryz.prog 17 #[.agg #[.slice a.AL nl a.cl,.bool lr]] W fun e w'=>(∃ A2 c2,e = .returned (.agg #[.slice A2 nl c2,.bool lr]) ∧ NewS w' W.heap.size A2 c2 r.left.parts) ∧ Calm W w'):=fun W hW=>copy_v r.left a.AL nl a.cl lr W ((hr.calm hc1).calm hW).lr hnl hlr
 unfold ruleV
 rw [hnl,hnr,hlr,hrr,hex]
 have HW:=Lib.hid hw1
 have HC:=Lib.hid hc1
 have HB:=Lib.hid hbox
 have HN:=Lib.hid (And.intro hnl (And.intro hnr (And.intro hlr (And.intro hrr hex))))
 clear hw1 hc1 hbox hr hnl hnr hlr hrr hex
 obtain ⟨AL,cl,AR,cr⟩:=a
 simp only at KR KL ⊢
 go_enter Tryz.func56,Tryz.ntmps56
 go_wp2
 rw [← HW.out]
 go_region_held3 (fun w'=>Below (w.heap.size + 1) w1 w' ∧ w'.cell? ⟨w.heap.size,0,none⟩ = some (.bool ex) ∧ w'.cell? ⟨w.heap.size,1,none⟩ = some (.slice AL nl cl) ∧ w'.cell? ⟨w.heap.size,2,none⟩ = some (.bool lr) ∧ w'.cell? ⟨w.heap.size,3,none⟩ = some (.slice AR nr cr) ∧ w'.cell? ⟨w.heap.size,4,none⟩ = some (.bool rr))
  (first
   |exact HB.out.S (Below.drew (Below.refl _ _))
   |exact HB.out.S (HB.out.low hcx)
   |exact HB.out.S (HB.out.low hcy)
   |exact HB.out.S (Below.setCell (Below.setCell (Below.setCell (Below.setCell (Below.setCell (HB.out.low hcy) (Nat.le_refl _) _) (Nat.le_refl _) _) (Nat.le_refl _) _) (Nat.le_refl _) _) (Nat.le_refl _) _)
   |go_keep)
  (first
   |(go_at_call_of 17 (Value.slice AR nr cr);refine (KR.out _ (Below.drew (Calm.refl _))).mono ?_;rintro e w2 ⟨⟨A2,c2,rfl,hns2⟩,hc2⟩;have hcx : Calm w1 w2:=Calm.trans (Below.drew (Calm.refl _)) hc2)
   |(go_at_call_of 17 (Value.slice AL nl cl);refine (KL.out _ hcx).mono ?_;rintro e w3 ⟨⟨A3,c3,rfl,hns3⟩,hc3⟩;have hcy : Calm w1 w3:=hcx.trans hc3;have rm:=HB.out.room hcy;have d0:=rm.d0;have d1:=rm.d1;have d2:=rm.d2;have d3:=rm.d3;have d4:=rm.d4;have f0:=rm.f 0;have f1:=rm.f 1;have f2:=rm.f 2;have f3:=rm.f 3;have f4:=rm.f 4;clear rm))
 all_goals
  have hA : NewS w3 (w.heap.size + 2) A2 c2 r.right.parts:=(hns2.calm hc3).mono (by show w.heap.size + 2 ≤ w1.heap.size;rw [HB.out.size];exact Nat.le_refl _)
  have hB : NewS w3 (w.heap.size + 2) A3 c3 r.left.parts:=hns3.mono (by have:=hcx.size;rw [HB.out.size] at this;exact this)
  have hA5:=hA.setT (.bool ex) (.slice A2 nr c2) (.bool rr) (.slice A3 nl c3) (.bool lr)
  have hB5:=hB.setT (.bool ex) (.slice A2 nr c2) (.bool rr) (.slice A3 nl c3) (.bool lr)
  have hc4 : Calm w (((((w3.setCell ⟨w.heap.size + 1,0,none⟩ (.bool ex)).setCell ⟨w.heap.size + 1,1,none⟩ (.slice A2 nr c2)).setCell ⟨w.heap.size + 1,2,none⟩ (.bool rr)).setCell ⟨w.heap.size + 1,3,none⟩ (.slice A3 nl c3)).setCell ⟨w.heap.size + 1,4,none⟩ (.bool lr)):=
   Below.setCell (Below.setCell (Below.setCell (Below.setCell (Below.setCell (HC.out.trans hcy) (by show w.heap.size ≤ w.heap.size + 1;omega) _) (by show w.heap.size ≤ w.heap.size + 1;omega) _) (by show w.heap.size ≤ w.heap.size + 1;omega) _) (by show w.heap.size ≤ w.heap.size + 1;omega) _) (by show w.heap.size ≤ w.heap.size + 1;omega) _
  clear hA hB hns2 hns3 hcx hcy hc2 hc3 KR KL
  go_wp2
  refine bodyPost_ret (v:=.agg #[.bool ex,.slice A2 nr c2,.bool rr,.slice A3 nl c3,.bool lr]) ?_ rfl ⟨⟨⟨A2,c2,A3,c3⟩,by rw [← HN.out.1,← HN.out.2.1,← HN.out.2.2.1,← HN.out.2.2.2.1,← HN.out.2.2.2.2];rfl,⟨hA5,hB5⟩⟩,hc4⟩
  rw [results_cell1 rfl]
  go_simp

theorem run_append_rulesG {w w0 : World} (ty : TypeId) {v : Value} {l : List (Pl × Rule)} {x : Pl × Rule} {n c : Nat} (hown : OwnR w0 w v l)
  (hrd : ∀ j u,(cells5 [x])[j]? = some u → w.cell? ⟨n,j,none⟩ = some u) (hl : l.length ≤ 1100000) :
  ∃ v' w',(Builtin.append_ #[22,22] ty #[v,.slice (some ⟨n,0,none⟩) 1 c]).run Tryz.prog w = .ok v' w' ∧ OwnR w0 w' v' (l ++ [x]) ∧ w.grownBy w' v.ownBlock:=by
 obtain ⟨i0,hi0,hz0,hz1,hz2⟩:=info_parts info_rule
 have hnews : ∀ (j : Nat) (u : Value),(cells5 [x])[j]? = some u → w.cell? ((⟨n,0,none⟩ : Addr).add j) = some u:=fun j u hj=>by
  simpa [Addr.add_lit] using hrd j u hj
 have h1 : ∀ u ∈ cells5 [x],u.oneCell' = true:=fun u hu=>by
  obtain ⟨j,hj,e⟩:=List.mem_iff_getElem.1 hu
  obtain ⟨k,x,i,_,_,_,h4⟩:=cells5_get [x] j u (by rw [← e];exact List.getElem?_eq_getElem hj)
  exact cell5_one h4
 obtain ⟨v',w',hr,h2,h3,_⟩:=run_append_own (P:=Tryz.prog) w w0.heap.size 22 ty 44 i0 _ 5 72 Tryz.underlying22 hi0 hz0 hz1 hz2 rfl (by decide) v l.length (cells5 l) hown.own ⟨n,0,none⟩ 1 c (cells5 [x]) (by rw [cells5_len];rfl) hnews h1 (by unfold maxLen;omega) (by omega) hown.calm.size
 exact ⟨v',w',hr,⟨Below.trans hown.calm (owns_below hown.own hown.calm.size h3),by rw [List.length_append,cells5_app];exact h2⟩,h3⟩
theorem wpList_append_rule1 {ops : Array Oper} {rest : List Oper} {o : Oper} {a : Act} {Q : Exit → Act → World → Prop} {w : World} (hgd : o.guard = none) (s x : Operand)
  (ho : o.op = .call { callee:=.builtin .append,args:=#[s,x],argTypes:=#[22,22] }) (w0 : World) (v : Value) (l : List (Pl × Rule)) (hs : a.eval s = v) (hown : OwnR w0 w v l)
  (n c : Nat) (hx : a.eval x = .slice (some ⟨n,0,none⟩) 1 c) (y : Pl × Rule)
  (hrd : ∀ j u,(cells5 [y])[j]? = some u → w.cell? ⟨n,j,none⟩ = some u) (hl : l.length ≤ 1100000)
  (h : ∀ v' w',OwnR w0 w' v' (l ++ [y]) → w.grownBy w' v.ownBlock → wpList Tryz.prog ops Q rest (a.put o.dst v') w') : wpList Tryz.prog ops Q (o :: rest) a w:=by
 refine wpList_plain hgd fun _ hK=>?_
 obtain ⟨v',w',hr,h2,h3⟩:=run_append_rulesG o.type (c:=c) hown hrd hl
 unfold Oper.wp execOp
 simp only [ho,resolve,invoke,builtin,Sem.run_bind,Sem.run_pure,Result.andThen_ok,List.map_toArray,List.map_cons,List.map_nil,hs,hx]
 rw [hr]
 exact hK _ _ (h v' w' h2 h3)
theorem one_at {w : World} {n : Nat} (x : Pl × Rule) (h : w.heap.size = n) : ∀ j u,(cells5 [x])[j]? = some u → (w.alloc (.cells #[.bool x.2.excl,.slice x.1.AL x.2.left.parts.length x.1.cl,.bool x.2.left.rest,.slice x.1.AR x.2.right.parts.length x.1.cr,.bool x.2.right.rest] 44)).cell? ⟨n,j,none⟩ = some u:=fun j u hj=>by
 subst h
 rw [cell_of_row _ w.heap.size j _ _ _ (heap_alloc_new w _)]
 simpa [cells5,cell5] using hj
def TurnVEnd (v : List Rule) (e : Ending) (w' : World) : Prop:=∃ A c,e = .returned (.slice A v.length c) ∧ RulesU w' A (turnV v)
structure RowT (w wr : World) (u : Value) (v : List Rule) (k : Nat) (l : List (Pl × Rule)) : Prop where
 own : OwnR w wr u l
 is : l.map (·.2) = (turnV v).take k
 each : ∀ x ∈ l,RuleN wr w.heap.size x.1 x.2
theorem turnV_take {v : List Rule} {k : Nat} {r : Rule} (h : v[k]? = some r) : (turnV v).take (k + 1) = (turnV v).take k ++ [r.turn]:=by
 obtain ⟨hlt,rfl⟩:=List.getElem?_eq_some_iff.1 h
 have : k < (turnV v).length:=by simpa [turnV] using hlt
 rw [List.take_succ_eq_append_getElem this]
 simp [turnV]
theorem RowT.len {w wr : World} {u : Value} {v : List Rule} {k : Nat} {l : List (Pl × Rule)} (h : RowT w wr u v k l) (hk : k ≤ v.length) : l.length = k:=by
 have:=congrArg List.length h.is
 rw [List.length_map,List.length_take] at this
 have h2 : (turnV v).length = v.length:=by simp [turnV]
 omega
theorem RowT.done {w wr : World} {u : Value} {v : List Rule} {l : List (Pl × Rule)} (h : RowT w wr u v v.length l) (hv : v.length ≤ 1048577) : TurnVEnd v (.returned u) wr:=by
 have hl:=h.len (Nat.le_refl _)
 obtain ⟨A,c,rfl,hr⟩:=h.own.rules (by rw [hl];exact hv) (fun x hx=>(h.each x hx).u)
 rw [h.is,List.take_of_length_le (by simp [turnV])] at hr
 exact ⟨A,c,by rw [hl],hr⟩

set_option maxRecDepth 20000 in
set_option maxHeartbeats 4000000 in
theorem vturn_c (v : List Rule) (A : Option Addr) (n c : Nat) (w : World) (hv : RulesU w A v) (hn : v.length = n) :
  Calls Tryz.prog 31 #[.slice A n c] w fun e w'=>TurnVEnd v e w' ∧ Calm w w':=by
 have hlen:=hv.len
 rw [hn] at hlen
 have HN:=Lib.hid hn
 have HV:=Lib.hid hv
 clear hn hv
 go_enter Tryz.func31,Tryz.ntmps31
 go_wp2_with fail
 go_loopw [3,8] (fun u q wr=>∃ (k : Nat) (l : List (Pl × Rule)),k ≤ n ∧ q = .int .i64 k ∧ Hid (RowT w wr u v k l)) (fun _ q _=>n - (intOf q).toNat)
 case atStart=>exact ⟨0,[],Nat.zero_le _,rfl,⟨OwnR.nil (Calm.refl _),rfl,fun x hx=>by cases hx⟩⟩
 case round=>
  obtain ⟨k,l,hk,rfl,HR⟩:=hrel
  by_cases hlt : k < n
  ·obtain ⟨b,o,r,a,rfl,hb,hr,hat,hru⟩:=(HV.out.calm HR.out.own.calm).get (k:=k) (by rw [HN.out];exact hlt)
   have hll:=HR.out.len (by rw [HN.out];exact hk)
   have c0:=hat.c0
   have c1:=hat.c1
   have c2:=hat.c2
   have c3:=hat.c3
   have c4:=hat.c4
   obtain ⟨wB,hwB⟩ : ∃ wB,wB = wr.alloc (.cells #[.bool r.excl,.slice a.AL r.left.parts.length a.cl,.bool r.left.rest,.slice a.AR r.right.parts.length a.cr,.bool r.right.rest] 44):=⟨_,rfl⟩
   have hcB : Calm wr wB:=by rw [hwB];exact (Calm.refl wr).alloc _
   have ht : Calls Tryz.prog 56 #[.agg #[.bool r.excl,.slice a.AL r.left.parts.length a.cl,.bool r.left.rest,.slice a.AR r.right.parts.length a.cr,.bool r.right.rest]] wB fun e w'=>(∃ a3 : Pl,e = .returned (.agg #[.bool r.turn.excl,.slice a3.AL r.turn.left.parts.length a3.cl,.bool r.turn.left.rest,.slice a3.AR r.turn.right.parts.length a3.cr,.bool r.turn.right.rest]) ∧ RuleN w' wB.heap.size a3 r.turn) ∧ Calm wB w':=turn_c r a wB (hru.calm hcB)
   have HB:=Lib.hid hwB
   have HCB:=Lib.hid hcB
   have HR2:=Lib.hid hr
   have HL:=Lib.hid hll
   clear hr hat hru hwB hcB hll
   go_wp2_with (first
    |(go_at_call 56;rw [← HB.out];refine ht.mono ?_;rintro e w3 ⟨⟨a3,rfl,hn3⟩,hc3⟩;have hown3:=HR.out.own.to (HCB.out.trans hc3))
    |(at_builtin;refine wpList_append_rule1 rfl (.tmp 12) (.tmp 15) rfl w u3 l rfl (hown3.to ((Calm.refl w3).alloc _)) w3.heap.size 1 rfl (a3,r.turn) (one_at (a3,r.turn) rfl) (by rw [HL.out];omega) ?_;intro v5 w5 hown5 hgr))
   have hN : Hid (RowT w w5 v5 v (k + 1) (l ++ [(a3,r.turn)])):=by
    refine ⟨hown5,?_,fun x hx=>?_⟩
    ·rw [List.map_append,HR.out.is,turnV_take HR2.out]
     rfl
    ·have hc4 : Calm wr (w3.alloc (.cells #[.bool r.turn.excl,.slice a3.AL r.turn.left.parts.length a3.cl,.bool r.turn.left.rest,.slice a3.AR r.turn.right.parts.length a3.cr,.bool r.turn.right.rest] 44)):=(HCB.out.trans hc3).alloc _
     rcases List.mem_append.1 hx with hx | hx
     ·exact ((HR.out.each x hx).calm hc4).grown (by decide) (hown3.to ((Calm.refl w3).alloc _)).own hgr
     ·rw [List.mem_singleton.1 hx]
      exact ((hn3.mono (Nat.le_trans HR.out.own.calm.size HCB.out.size)).calm ((Calm.refl w3).alloc _)).grown (by decide) (hown3.to ((Calm.refl w3).alloc _)).own hgr
   clear hown5 hgr hn3 hown3
   go_wp2
   go_roundw
   case rel=>exact ⟨k + 1,_,by omega,by go_num,hN⟩
   case measure=>simp [intOf];omega
  ·obtain rfl : k = n:=by omega
   have hD:=Lib.hid (HN.out ▸ HR.out : RowT w wr u3 v v.length l)
   go_wp2
   go_ret
   exact ⟨hD.out.done (by rw [HN.out];omega),HR.out.own.calm⟩

end Go.Proofs.YthopphabeddnfaaGreatDoor
