/- Walk: the reference's NarrowRight. -/
import Derived.Deep.RegionLaw
import Derived.Deep.RegionHeld3
import Derived.Deep.DeepCutAuto
import Derived.Test.YtnlnclefedohkaaGreatDoorZCopyP
import Derived.Test.YtnlnclefedohkaaGreatDoorZWalkI
import Derived.Test.YtnlnclefedohkaaGreatDoorZKinds
import Derived.Test.YtnlnclefedohkaaGreatDoorZRNarW
import Derived.Test.YtnlnclefedohkaaGreatDoorZNarRW
import Derived.Test.YtnlnclefedohkaaGreatDoorZRightW
set_option linter.unusedVariables false
set_option linter.unusedSimpArgs false
namespace Go.Proofs.YtnlnclefedohkaaGreatDoor
open Go Go.RowKit Sy
theorem step_app {ops : Array Oper} {o : Oper} {a : Act} {w : World} {K : Act → World → Prop} {Q : Exit → Act → World → Prop} {E : Prop}
  (hg : o.guard = none) (s x : Operand) (hop : o.op = Op.call { callee:=Callee.builtin Builtin.append,args:=#[s,x],argTypes:=#[38,38] })
  (w0 : World) (v : Value) (ls : List Str) (hs : a.eval s = v) (hown : OwnS w0 w v ls) (AX : Option Addr) (m c : Nat) (hx : a.eval x = .slice AX m c) (news : List Str) (hm : news.length = m) (hrd : StrsU w AX news) (hl : ls.length + m ≤ 4000000)
  (hK : ∀ v' w',OwnS w0 w' v' (ls ++ news) → K (a.put o.dst v') w') :
  if Region.wanted o (yielded ops a.tmps) = true then Oper.wp Tryz.prog o a w K Q else E:=by
 have hw : Region.wanted o (yielded ops a.tmps) = true:=by simp [Region.wanted,hg]
 rw [if_pos hw]
 obtain ⟨i0,hi0,hz0,hz1,hz2⟩:=info_parts info_strE
 have hrun : ∃ v' w',(Builtin.append_ #[38,38] o.type #[v,.slice AX m c]).run Tryz.prog w = .ok v' w' ∧ OwnS w0 w' v' (ls ++ news):=by
  cases AX with
  |none=>
   have h0 : news = []:=by
    cases news with
    |nil=>rfl
    |cons y t=>
     obtain ⟨b,o',hA,_⟩:=hrd.at_ (by simp)
     cases hA
   subst h0
   obtain rfl : 0 = m:=by simpa using hm
   refine ⟨v,w,?_,by rw [List.append_nil];exact hown⟩
   rcases hown.own.2 with ⟨rfl,h1⟩ | ⟨g,cap,cur,rfl,_,_,hnc,_⟩
   ·simp [Builtin.append_,run_underlying Tryz.underlying38,sizeOf,typeInfo,hi0,Builtin.lenOf,Builtin.firstCells]
   ·simp [Builtin.append_,run_underlying Tryz.underlying38,sizeOf,typeInfo,hi0,Builtin.lenOf,Builtin.firstCells,hnc,storeCells]
  |some ad=>
   have hnews : ∀ (j : Nat) (u : Value),(strCells news)[j]? = some u → w.cell? (ad.add j) = some u:=fun j u hj=>by
    simp only [strCells,List.getElem?_map,Option.map_eq_some_iff] at hj
    obtain ⟨l,hl1,rfl⟩:=hj
    obtain ⟨b,o',hA,hb,hk⟩:=hrd.at_ (by have:=(List.getElem?_eq_some_iff.1 hl1).1;omega)
    obtain rfl:=Option.some.inj hA
    simpa [Addr.add_lit] using hk j l hl1
   have h1 : ∀ u ∈ strCells news,u.oneCell' = true:=fun u hu=>by
    obtain ⟨l,_,rfl⟩:=List.mem_map.1 hu
    rfl
   obtain ⟨v',w',hr,h2,h3,_⟩:=run_append_own (P:=Tryz.prog) w w0.heap.size 38 o.type 9 i0 _ 1 16 Tryz.underlying38 hi0 hz0 hz1 hz2 rfl (by decide) v ls.length (strCells ls) hown.own ad m c (strCells news) (by rw [strCells,List.length_map,hm,Nat.mul_one]) hnews h1 (by unfold maxLen;omega) (by omega) hown.calm.size
   exact ⟨v',w',hr,Below.trans hown.calm (owns_below hown.own hown.calm.size h3),by rw [List.length_append,hm];simpa [strCells] using h2⟩
 obtain ⟨v',w',hr,h2⟩:=hrun
 unfold Oper.wp
 simp [execOp,hop,resolve,invoke,builtin,hs,hx,Result.andThen]
 rw [hr]
 exact hK v' w' h2

end Go.Proofs.YtnlnclefedohkaaGreatDoor
set_option linter.unusedVariables false
set_option linter.unusedSimpArgs false
namespace Go.Proofs.YtnlnclefedohkaaGreatDoor
open Go Go.RowKit Sy

def TurnEnd (r : Rule) (B : Nat) (e : Ending) (w' : World) : Prop:=∃ a,e = .returned (ruleV a r.turn) ∧ RuleN w' B a r.turn
structure BoxT (w1 : World) (B : Nat) (a : Pl) (nl nr : Nat) (lr rr ex : Bool) : Prop where
 size : w1.heap.size = B + 2
 c0 : w1.cell? ⟨B,0,none⟩ = some (.bool ex)
 c1 : w1.cell? ⟨B,1,none⟩ = some (.slice a.AL nl a.cl)
 c2 : w1.cell? ⟨B,2,none⟩ = some (.bool lr)
 c3 : w1.cell? ⟨B,3,none⟩ = some (.slice a.AR nr a.cr)
 c4 : w1.cell? ⟨B,4,none⟩ = some (.bool rr)
 d0 : w1.cell? ⟨B + 1,0,none⟩ = some (.bool false)
 d1 : w1.cell? ⟨B + 1,1,none⟩ = some (.slice none 0 0)
 d2 : w1.cell? ⟨B + 1,2,none⟩ = some (.bool false)
 d3 : w1.cell? ⟨B + 1,3,none⟩ = some (.slice none 0 0)
 d4 : w1.cell? ⟨B + 1,4,none⟩ = some (.bool false)
 f : ∀ o,w1.frozen? ⟨B + 1,o,none⟩ = false
theorem BoxT.S {w1 w2 : World} {B : Nat} {a : Pl} {nl nr : Nat} {lr rr ex : Bool} (h : BoxT w1 B a nl nr lr rr ex) (hc : Below (B + 1) w1 w2) : Below (B + 1) w1 w2 ∧ w2.cell? ⟨B,0,none⟩ = some (.bool ex) ∧ w2.cell? ⟨B,1,none⟩ = some (.slice a.AL nl a.cl) ∧ w2.cell? ⟨B,2,none⟩ = some (.bool lr) ∧ w2.cell? ⟨B,3,none⟩ = some (.slice a.AR nr a.cr) ∧ w2.cell? ⟨B,4,none⟩ = some (.bool rr):=
 ⟨hc,(hc.cell (p:=⟨B,0,none⟩) (Nat.lt_succ_self B)).trans h.c0,(hc.cell (p:=⟨B,1,none⟩) (Nat.lt_succ_self B)).trans h.c1,(hc.cell (p:=⟨B,2,none⟩) (Nat.lt_succ_self B)).trans h.c2,(hc.cell (p:=⟨B,3,none⟩) (Nat.lt_succ_self B)).trans h.c3,(hc.cell (p:=⟨B,4,none⟩) (Nat.lt_succ_self B)).trans h.c4⟩
theorem BoxT.low {w1 w2 : World} {B : Nat} {a : Pl} {nl nr : Nat} {lr rr ex : Bool} (h : BoxT w1 B a nl nr lr rr ex) (hc : Calm w1 w2) : Below (B + 1) w1 w2:=hc.mono (by rw [h.size];omega)
structure RoomT (w2 : World) (B : Nat) : Prop where
 d0 : w2.cell? ⟨B + 1,0,none⟩ = some (.bool false)
 d1 : w2.cell? ⟨B + 1,1,none⟩ = some (.slice none 0 0)
 d2 : w2.cell? ⟨B + 1,2,none⟩ = some (.bool false)
 d3 : w2.cell? ⟨B + 1,3,none⟩ = some (.slice none 0 0)
 d4 : w2.cell? ⟨B + 1,4,none⟩ = some (.bool false)
 f : ∀ o,w2.frozen? ⟨B + 1,o,none⟩ = false
theorem BoxT.room {w1 w2 : World} {B : Nat} {a : Pl} {nl nr : Nat} {lr rr ex : Bool} (h : BoxT w1 B a nl nr lr rr ex) (hc : Calm w1 w2) : RoomT w2 B:=by
 have h1 : B + 1 < w1.heap.size:=by rw [h.size];omega
 exact ⟨hc.at_ h.d0 h1,hc.at_ h.d1 h1,hc.at_ h.d2 h1,hc.at_ h.d3 h1,hc.at_ h.d4 h1,fun o=>(hc.frozen (p:=⟨B + 1,o,none⟩) h1).trans (h.f o)⟩
theorem NewS.setT {w : World} {B : Nat} {A : Option Addr} {c : Nat} {ls : List Str} (h : NewS w (B + 2) A c ls) (u0 u1 u2 u3 u4 : Value) : NewS (((((w.setCell ⟨B + 1,0,none⟩ u0).setCell ⟨B + 1,1,none⟩ u1).setCell ⟨B + 1,2,none⟩ u2).setCell ⟨B + 1,3,none⟩ u3).setCell ⟨B + 1,4,none⟩ u4) B A c ls:=
 (((((h.set (p:=⟨B + 1,0,none⟩) u0 (Nat.lt_succ_self _)).set (p:=⟨B + 1,1,none⟩) u1 (Nat.lt_succ_self _)).set (p:=⟨B + 1,2,none⟩) u2 (Nat.lt_succ_self _)).set (p:=⟨B + 1,3,none⟩) u3 (Nat.lt_succ_self _)).set (p:=⟨B + 1,4,none⟩) u4 (Nat.lt_succ_self _)).mono (by omega)
theorem rcopy_v (p : Pat) (A : Option Addr) (n c : Nat) (re : Bool) (w : World) (hr : StrsU w A p.parts) (hn : p.parts.length = n) (hre : p.rest = re) :
  Calls Tryz.prog 93 #[.agg #[.slice A n c,.bool re]] w fun e w'=>(∃ A2 c2,e = .returned (.agg #[.slice A2 n c2,.bool re]) ∧ NewS w' w.heap.size A2 c2 p.parts) ∧ Calm w w':=by
 obtain ⟨w1,hw1⟩ : ∃ w1,w1 = (w.alloc (.cells #[.slice A n c,.bool re] 40)).alloc (.cells #[.slice none 0 0,.bool false] 40):=⟨_,rfl⟩
 have hc1 : Calm w w1:=by rw [hw1];exact ((Calm.refl w).alloc _).alloc _
 have hz1 : w1.heap.size = w.heap.size + 2:=by rw [hw1];simp
 have k0 : w1.cell? ⟨w.heap.size,0,none⟩ = some (.slice A n c):=by rw [hw1];simp
 have k1 : w1.cell? ⟨w.heap.size,1,none⟩ = some (.bool re):=by rw [hw1];simp
 have k2 : w1.cell? ⟨w.heap.size + 1,0,none⟩ = some (.slice none 0 0):=by rw [hw1];simp
 have k3 : w1.cell? ⟨w.heap.size + 1,1,none⟩ = some (.bool false):=by rw [hw1];simp
 have f0 : w1.frozen? ⟨w.heap.size + 1,0,none⟩ = false:=by rw [hw1];simp
 have f1 : w1.frozen? ⟨w.heap.size + 1,1,none⟩ = false:=by rw [hw1];simp
 have hlen:=hr.len
 rw [hn] at hlen
 have HW:=Lib.hid hw1
 have HC:=Lib.hid hc1
 have HN:=Lib.hid hn
 have HK:=Lib.hid (And.intro k0 (And.intro k1 (And.intro k2 (And.intro k3 (And.intro f0 (And.intro f1 hz1))))))
 have HR:=Lib.hid (hr.calm hc1)
 have HE:=Lib.hid hr.each
 clear hw1 hc1 hr hn hz1
 go_enter Tryz.func93,Tryz.ntmps93
 go_wp2
 rw [← HW.out]
 go_region_law ((refine step_app rfl (.const (.slice none 0 0)) (.tmp 4) rfl w1 (.slice none 0 0) [] rfl (OwnS.nil (by first | exact Calm.refl _ | exact (Calm.refl _).drewN _ | exact Below.drew (Calm.refl _))) A n c (by simp [Act.eval,Act.put]) p.parts HN.out (HR.out.calm (by first | exact Calm.refl _ | exact (Calm.refl _).drewN _ | exact Below.drew (Calm.refl _))) (by simp;omega) ?_;intro v5 w5 hown5;obtain ⟨A9,c9,hv9,hns9⟩:=own_newS hown5.own HR.out.len HE.out;simp only [List.nil_append] at hv9 hns9;rw [HN.out] at hv9;subst hv9;have z1:=hown5.calm.at_ HK.out.2.1 (by rw [HK.out.2.2.2.2.2.2];omega);have z2:=hown5.calm.at_ HK.out.2.2.1 (by rw [HK.out.2.2.2.2.2.2];omega);have z3:=hown5.calm.at_ HK.out.2.2.2.1 (by rw [HK.out.2.2.2.2.2.2];omega);have z4:=(hown5.calm.frozen (p:=⟨w.heap.size + 1,0,none⟩) (by rw [HK.out.2.2.2.2.2.2];show w.heap.size + 1 < _;omega)).trans HK.out.2.2.2.2.1;have z5:=(hown5.calm.frozen (p:=⟨w.heap.size + 1,1,none⟩) (by rw [HK.out.2.2.2.2.2.2];show w.heap.size + 1 < _;omega)).trans HK.out.2.2.2.2.2.1))
 all_goals
  have hc3 : Calm w ((w5.setCell ⟨w.heap.size + 1,0,none⟩ (.slice A9 n c9)).setCell ⟨w.heap.size + 1,1,none⟩ (.bool re)):=Below.setCell (Below.setCell (HC.out.trans hown5.calm) (by show w.heap.size ≤ w.heap.size + 1;omega) _) (by show w.heap.size ≤ w.heap.size + 1;omega) _
  have hn3:=((hns9.set (p:=⟨w.heap.size + 1,0,none⟩) (.slice A9 n c9) (by show w.heap.size + 1 < _;have:=HK.out.2.2.2.2.2.2;simp;omega)).set (p:=⟨w.heap.size + 1,1,none⟩) (.bool re) (by show w.heap.size + 1 < _;have:=HK.out.2.2.2.2.2.2;simp;omega))
  have hn4:=hn3.mono (show w.heap.size ≤ _ by have:=HK.out.2.2.2.2.2.2;simp;omega)
  clear hns9 hn3 k0 k1 k2 k3 f0 f1 hown5
  try simp only [List.getElem_toArray,List.getElem_cons_succ,List.getElem_cons_zero,Act.put,List.setIfInBounds_toArray,List.set_cons_succ,List.set_cons_zero]
  go_wp2
  refine bodyPost_ret (v:=.agg #[.slice A9 n c9,.bool re]) ?_ rfl ⟨⟨A9,c9,rfl,hn4⟩,hc3⟩
  rw [results_cell1 rfl]
  go_simp

set_option maxHeartbeats 8000000 in
theorem rturn_c (r : Rule) (a : Pl) (w : World) (hr : RuleU w a r) :
  Calls Tryz.prog 63 #[ruleV a r] w fun e w'=>TurnEnd r w.heap.size e w' ∧ Calm w w':=by
 obtain ⟨nl,hnl⟩ : ∃ nl,r.left.parts.length = nl:=⟨_,rfl⟩
 obtain ⟨nr,hnr⟩ : ∃ nr,r.right.parts.length = nr:=⟨_,rfl⟩
 obtain ⟨lr,hlr⟩ : ∃ lr,r.left.rest = lr:=⟨_,rfl⟩
 obtain ⟨rr,hrr⟩ : ∃ rr,r.right.rest = rr:=⟨_,rfl⟩
 obtain ⟨ex,hex⟩ : ∃ ex,r.excl = ex:=⟨_,rfl⟩
 obtain ⟨w1,hw1⟩ : ∃ w1,w1 = (w.alloc (.cells #[.bool ex,.slice a.AL nl a.cl,.bool lr,.slice a.AR nr a.cr,.bool rr] 52)).alloc (.cells #[.bool false,.slice none 0 0,.bool false,.slice none 0 0,.bool false] 52):=⟨_,rfl⟩
 have hc1 : Calm w w1:=by rw [hw1];exact ((Calm.refl w).alloc _).alloc _
 have hbox : BoxT w1 w.heap.size a nl nr lr rr ex:=by
  rw [hw1]
  exact ⟨by simp,by simp,by simp,by simp,by simp,by simp,by simp,by simp,by simp,by simp,by simp,fun o=>by simp⟩
 have KR : Hid (∀ W,Calm w1 W → Calls Tryz.prog 93 #[.agg #[.slice a.AR nr a.cr,.bool rr]] W fun e w'=>(∃ A2 c2,e = .returned (.agg #[.slice A2 nr c2,.bool rr]) ∧ NewS w' W.heap.size A2 c2 r.right.parts) ∧ Calm W w'):=fun W hW=>rcopy_v r.right a.AR nr a.cr rr W ((hr.calm hc1).calm hW).rr hnr hrr
 have KL : Hid (∀ W,Calm w1 W → Calls Tryz.prog 93 #[.agg #[.slice a.AL nl a.cl,.bool lr]] W fun e w'=>(∃ A2 c2,e = .returned (.agg #[.slice A2 nl c2,.bool lr]) ∧ NewS w' W.heap.size A2 c2 r.left.parts) ∧ Calm W w'):=fun W hW=>rcopy_v r.left a.AL nl a.cl lr W ((hr.calm hc1).calm hW).lr hnl hlr
 unfold ruleV
 rw [hnl,hnr,hlr,hrr,hex]
 have HW:=Lib.hid hw1
 have HC:=Lib.hid hc1
 have HB:=Lib.hid hbox
 have HN:=Lib.hid (And.intro hnl (And.intro hnr (And.intro hlr (And.intro hrr hex))))
 clear hw1 hc1 hbox hr hnl hnr hlr hrr hex
 obtain ⟨AL,cl,AR,cr⟩:=a
 simp only at KR KL ⊢
 go_enter Tryz.func63,Tryz.ntmps63
 go_wp2
 rw [← HW.out]
 go_region_held3 (fun w'=>Below (w.heap.size + 1) w1 w' ∧ w'.cell? ⟨w.heap.size,0,none⟩ = some (.bool ex) ∧ w'.cell? ⟨w.heap.size,1,none⟩ = some (.slice AL nl cl) ∧ w'.cell? ⟨w.heap.size,2,none⟩ = some (.bool lr) ∧ w'.cell? ⟨w.heap.size,3,none⟩ = some (.slice AR nr cr) ∧ w'.cell? ⟨w.heap.size,4,none⟩ = some (.bool rr))
  (first
   |exact HB.out.S (Below.drew (Below.refl _ _))
   |exact HB.out.S (HB.out.low hcx)
   |exact HB.out.S (HB.out.low hcy)
   |exact HB.out.S (Below.setCell (Below.setCell (Below.setCell (Below.setCell (Below.setCell (HB.out.low hcy) (Nat.le_refl _) _) (Nat.le_refl _) _) (Nat.le_refl _) _) (Nat.le_refl _) _) (Nat.le_refl _) _)
   |go_keep)
  (first
   |(go_at_call_of 93 (Value.slice AR nr cr);refine (KR.out _ (Below.drew (Calm.refl _))).mono ?_;rintro e w2 ⟨⟨A2,c2,rfl,hns2⟩,hc2⟩;have hcx : Calm w1 w2:=Calm.trans (Below.drew (Calm.refl _)) hc2)
   |(go_at_call_of 93 (Value.slice AL nl cl);refine (KL.out _ hcx).mono ?_;rintro e w3 ⟨⟨A3,c3,rfl,hns3⟩,hc3⟩;have hcy : Calm w1 w3:=hcx.trans hc3;have rm:=HB.out.room hcy;have d0:=rm.d0;have d1:=rm.d1;have d2:=rm.d2;have d3:=rm.d3;have d4:=rm.d4;have f0:=rm.f 0;have f1:=rm.f 1;have f2:=rm.f 2;have f3:=rm.f 3;have f4:=rm.f 4;clear rm))
 all_goals
  have hA : NewS w3 (w.heap.size + 2) A2 c2 r.right.parts:=(hns2.calm hc3).mono (by show w.heap.size + 2 ≤ w1.heap.size;rw [HB.out.size];exact Nat.le_refl _)
  have hB : NewS w3 (w.heap.size + 2) A3 c3 r.left.parts:=hns3.mono (by have:=hcx.size;rw [HB.out.size] at this;exact this)
  have hA5:=hA.setT (.bool ex) (.slice A2 nr c2) (.bool rr) (.slice A3 nl c3) (.bool lr)
  have hB5:=hB.setT (.bool ex) (.slice A2 nr c2) (.bool rr) (.slice A3 nl c3) (.bool lr)
  have hc4 : Calm w (((((w3.setCell ⟨w.heap.size + 1,0,none⟩ (.bool ex)).setCell ⟨w.heap.size + 1,1,none⟩ (.slice A2 nr c2)).setCell ⟨w.heap.size + 1,2,none⟩ (.bool rr)).setCell ⟨w.heap.size + 1,3,none⟩ (.slice A3 nl c3)).setCell ⟨w.heap.size + 1,4,none⟩ (.bool lr)):=
   Below.setCell (Below.setCell (Below.setCell (Below.setCell (Below.setCell (HC.out.trans hcy) (by show w.heap.size ≤ w.heap.size + 1;omega) _) (by show w.heap.size ≤ w.heap.size + 1;omega) _) (by show w.heap.size ≤ w.heap.size + 1;omega) _) (by show w.heap.size ≤ w.heap.size + 1;omega) _) (by show w.heap.size ≤ w.heap.size + 1;omega) _
  clear hA hB hns2 hns3 hcx hcy hc2 hc3 KR KL
  go_wp2
  refine bodyPost_ret (v:=.agg #[.bool ex,.slice A2 nr c2,.bool rr,.slice A3 nl c3,.bool lr]) ?_ rfl ⟨⟨⟨A2,c2,A3,c3⟩,by rw [← HN.out.1,← HN.out.2.1,← HN.out.2.2.1,← HN.out.2.2.2.1,← HN.out.2.2.2.2];rfl,⟨hA5,hB5⟩⟩,hc4⟩
  rw [results_cell1 rfl]
  go_simp

end Go.Proofs.YtnlnclefedohkaaGreatDoor
set_option linter.unusedVariables false
set_option linter.unusedSimpArgs false
namespace Go.Proofs.YtnlnclefedohkaaGreatDoor
open Go Go.RowKit Sy

set_option maxRecDepth 100000 in
set_option maxHeartbeats 16000000 in
theorem rnright_c (r : Rule) (p : Pat) (a : Pl) (n pc : Nat) (re : Bool) (A : Option Addr) (w : World) (hr : RuleU w a r) (hs : SmallR r) (hp : PatA w A pc p) (hn : p.parts.length = n) (hre : p.rest = re) :
  Calls Tryz.prog 30 #[ruleV a r,.agg #[.slice A n pc,.bool re]] w fun e w'=>NarEnd (narR r p) w.heap.size e w' ∧ Calm w w':=by
 obtain ⟨nl,hnl⟩ : ∃ nl,r.left.parts.length = nl:=⟨_,rfl⟩
 obtain ⟨nr,hnr⟩ : ∃ nr,r.right.parts.length = nr:=⟨_,rfl⟩
 obtain ⟨lr,hlr⟩ : ∃ lr,r.left.rest = lr:=⟨_,rfl⟩
 obtain ⟨rr,hrr⟩ : ∃ rr,r.right.rest = rr:=⟨_,rfl⟩
 obtain ⟨ex,hex⟩ : ∃ ex,r.excl = ex:=⟨_,rfl⟩
 obtain ⟨w1,hw1⟩ : ∃ w1,w1 = ((w.alloc (.cells #[.bool ex,.slice a.AL nl a.cl,.bool lr,.slice a.AR nr a.cr,.bool rr] 52)).alloc (.cells #[.slice A n pc,.bool re] 40)).alloc (.cells #[.bool false,.slice none 0 0,.bool false,.slice none 0 0,.bool false] 52):=⟨_,rfl⟩
 have hc1 : Calm w w1:=by rw [hw1];exact (((Calm.refl w).alloc _).alloc _).alloc _
 have hbr : FiveB w1 w.heap.size (.bool ex) (.slice a.AL nl a.cl) (.bool lr) (.slice a.AR nr a.cr) (.bool rr):=by
  rw [hw1]
  exact (FiveB.new w _ _ _ _ _ _).calm (((Calm.refl _).alloc _).alloc _)
 have hbp : TwoB w1 (w.heap.size + 1) (.slice A n pc) (.bool re):=by
  rw [hw1]
  have:=(TwoB.new (w.alloc (.cells #[.bool ex,.slice a.AL nl a.cl,.bool lr,.slice a.AR nr a.cr,.bool rr] 52)) (.slice A n pc) (.bool re) 40).calm ((Calm.refl _).alloc (.cells #[.bool false,.slice none 0 0,.bool false,.slice none 0 0,.bool false] 52))
  simpa using this
 have hbz : FiveB w1 (w.heap.size + 1 + 1) (.bool false) (.slice none 0 0) (.bool false) (.slice none 0 0) (.bool false):=by
  rw [hw1]
  have:=FiveB.new ((w.alloc (.cells #[.bool ex,.slice a.AL nl a.cl,.bool lr,.slice a.AR nr a.cr,.bool rr] 52)).alloc (.cells #[.slice A n pc,.bool re] 40)) (.bool false) (.slice none 0 0) (.bool false) (.slice none 0 0) (.bool false) 52
  simpa using this
 obtain ⟨v,hv⟩ : ∃ v,ruleErr r = v:=⟨_,rfl⟩
 have KR : Hid (∀ W,Calm w1 W → Calls Tryz.prog 57 #[.agg #[.bool ex,.slice a.AL nl a.cl,.bool lr,.slice a.AR nr a.cr,.bool rr]] W fun e w'=>e = .returned (.int .i64 v) ∧ Calm W w'):=fun W hW=>by
  have:=rrule_c r a W ((hr.calm hc1).calm hW) hs
  unfold ruleV at this
  rw [hnl,hnr,hlr,hrr,hex,hv] at this
  exact this
 have KT : Hid (∀ W,Calm w1 W → Calls Tryz.prog 63 #[.agg #[.bool ex,.slice a.AL nl a.cl,.bool lr,.slice a.AR nr a.cr,.bool rr]] W fun e w'=>(∃ a1,e = .returned (.agg #[.bool ex,.slice a1.AL nr a1.cl,.bool rr,.slice a1.AR nl a1.cr,.bool lr]) ∧ RuleN w' W.heap.size a1 r.turn) ∧ Calm W w'):=fun W hW=>by
  have:=rturn_c r a W ((hr.calm hc1).calm hW)
  rw [show ruleV a r = .agg #[.bool ex,.slice a.AL nl a.cl,.bool lr,.slice a.AR nr a.cr,.bool rr] from by unfold ruleV;rw [hnl,hnr,hlr,hrr,hex]] at this
  refine this.mono fun e w' h=>?_
  obtain ⟨⟨a1,h1,h2⟩,h3⟩:=h
  refine ⟨⟨a1,?_,h2⟩,h3⟩
  rw [h1]
  unfold ruleV Rule.turn
  simp only [hnl,hnr,hlr,hrr,hex]
 obtain ⟨X,hX⟩ : ∃ X,narL ⟨false,r.right,r.left⟩ p = X:=⟨_,rfl⟩
 have KL : Hid (∀ a1 W,Calm w1 W → RuleU W a1 r.turn → Calls Tryz.prog 62 #[.agg #[.bool ex,.slice a1.AL nr a1.cl,.bool rr,.slice a1.AR nl a1.cr,.bool lr],.agg #[.slice A n pc,.bool re]] W fun e w'=>NarEnd X W.heap.size e w' ∧ Calm W w'):=fun a1 W hW hu=>by
  have:=rnleft_c r.turn p a1 n pc re A W hu hs.turn ((hp.calm hc1).calm hW) hn hre
  rw [show narL r.turn p = X from hX] at this
  rw [show ruleV a1 r.turn = .agg #[.bool ex,.slice a1.AL nr a1.cl,.bool rr,.slice a1.AR nl a1.cr,.bool lr] from by unfold ruleV Rule.turn;simp only [hnl,hnr,hlr,hrr,hex]] at this
  exact this
 have HX1 : Hid (v ≠ 0 → narR r p = (none,v)):=fun h=>by
  unfold narR
  rw [hv,if_pos h]
 have HX2 : Hid (∀ x,v = 0 → X = (none,x) → narR r p = (none,x)):=fun x h h2=>by
  unfold narR
  rw [hv,if_neg (by simpa using h),hX,h2]
  rfl
 have HX3 : Hid (∀ m,v = 0 → X = (some m,0) → narR r p = (some m.turn,0)):=fun m h h2=>by
  unfold narR
  rw [hv,if_neg (by simpa using h),hX,h2]
  rfl
 have HE : Hid (∀ m x,X = (some m,x) → m.excl = false ∧ x = 0):=fun m x h=>by
  have h1 : (narL ⟨false,r.right,r.left⟩ p).1 = some m:=by rw [hX,h]
  obtain ⟨_,_,g3,m',_,rfl,_,_⟩:=narL_some h1
  rw [hX,h] at g3
  exact ⟨rfl,g3⟩
 have HW:=Lib.hid hw1
 have HC:=Lib.hid hc1
 have HBr:=Lib.hid hbr
 have HBp:=Lib.hid hbp
 have HBz:=Lib.hid hbz
 have hsz : w.heap.size + 1 + 1 < w1.heap.size:=hbz.lt
 unfold ruleV
 rw [hnl,hnr,hlr,hrr,hex]
 clear hw1 hc1 hbr hbp hbz hr hs hp hn hre hnl hnr hlr hrr hex hv hX
 have HC8 : Hid (∀ W,Calm w1 W → ∀ u0 u1 u2 u3 u4,Calm w (set5 W (w.heap.size + 1 + 1) u0 u1 u2 u3 u4)):=fun W hW u0 u1 u2 u3 u4=>calm5 (HC.out.trans hW) (by omega) _ _ _ _ _
 go_enter Tryz.func30,Tryz.ntmps30
 have b:=HBr.out
 have b0:=b.c0
 have b1:=b.c1
 have b2:=b.c2
 have b3:=b.c3
 have b4:=b.c4
 clear b
 go_wp2_with fail
 rw [← HW.out]
 refine (KR.out w1 (Calm.refl _)).mono ?_
 rintro e w2 ⟨rfl,hc2⟩
 clear b0 b1 b2 b3 b4
 have HC2:=Lib.hid hc2
 by_cases hv0 : v = 0
 ·subst hv0
  have HSX : Hid (∀ W : World,Calm w2 W → W.cell? ⟨w.heap.size,0,none⟩ = some (.bool ex) ∧ W.cell? ⟨w.heap.size,1,none⟩ = some (.slice a.AL nl a.cl) ∧ W.cell? ⟨w.heap.size,2,none⟩ = some (.bool lr) ∧ W.cell? ⟨w.heap.size,3,none⟩ = some (.slice a.AR nr a.cr) ∧ W.cell? ⟨w.heap.size,4,none⟩ = some (.bool rr) ∧ W.cell? ⟨w.heap.size + 1,0,none⟩ = some (.slice A n pc) ∧ W.cell? ⟨w.heap.size + 1,1,none⟩ = some (.bool re)):=fun W hW=>by
   have b:=(HBr.out.calm HC2.out).calm hW
   have q:=(HBp.out.calm HC2.out).calm hW
   exact ⟨b.c0,b.c1,b.c2,b.c3,b.c4,q.c0,q.c1⟩
  have hsz2 : w1.heap.size ≤ w2.heap.size:=hc2.size
  clear hc2
  go_upto_region 4 with (fail)
  obtain ⟨o,x⟩:=X
  rcases o with _ | m
  ·have HX:=Lib.hid (HX2.out x (by trivial) rfl)
   have KL1 : Hid (∀ a1 W,Calm w1 W → RuleU W a1 r.turn → Calls Tryz.prog 62 #[.agg #[.bool ex,.slice a1.AL nr a1.cl,.bool rr,.slice a1.AR nl a1.cr,.bool lr],.agg #[.slice A n pc,.bool re]] W fun e w'=>e = .returned (.tuple #[.agg #[.bool false,.slice none 0 0,.bool false,.slice none 0 0,.bool false],.bool false,.int .i64 x]) ∧ Calm W w'):=fun a1 W hW hu=>(KL.out a1 W hW hu).mono fun e w' h=>by
    obtain ⟨h1,h2⟩:=h
    refine ⟨?_,h2⟩
    rcases h1 with ⟨_,h1⟩ | ⟨m,a2,h1,_⟩
    ·exact h1
    ·cases h1
   clear KL HX1 HX2 HX3 HE
   go_cut [9,10] (fun s u wx=>s = .bool false ∧ u = .int .i64 x ∧ Hid (Calm w2 wx))
   case first=>
    go_region_held3 (fun W=>W.cell? ⟨w.heap.size,0,none⟩ = some (.bool ex) ∧ W.cell? ⟨w.heap.size,1,none⟩ = some (.slice a.AL nl a.cl) ∧ W.cell? ⟨w.heap.size,2,none⟩ = some (.bool lr) ∧ W.cell? ⟨w.heap.size,3,none⟩ = some (.slice a.AR nr a.cr) ∧ W.cell? ⟨w.heap.size,4,none⟩ = some (.bool rr) ∧ W.cell? ⟨w.heap.size + 1,0,none⟩ = some (.slice A n pc) ∧ W.cell? ⟨w.heap.size + 1,1,none⟩ = some (.bool re))
     (first
      |with_reducible exact HSX.out _ (calm5 hcy hcx.size _ _ _ _ _)
      |with_reducible exact HSX.out _ (calm5 hcy (Nat.le_refl _) _ _ _ _ _)
      |with_reducible exact HSX.out _ hcy
      |with_reducible exact HSX.out _ (hcy.alloc _)
      |with_reducible exact HSX.out _ hcx
      |with_reducible exact HSX.out _ (hcx.alloc _)
      |with_reducible exact HSX.out _ (Calm.refl _)
      |with_reducible exact HSX.out _ (Below.drew (Calm.refl _))
      |with_reducible exact HSX.out _ (Below.drew ((Calm.refl _).alloc _))
      |with_reducible exact HSX.out _ ((Calm.refl _).alloc _)
      |go_keep)
     (first
      |(go_at_call 63;refine (KT.out _ (HC2.out.trans (by first | exact Below.drew (Calm.refl _) | exact Below.drew ((Calm.refl _).alloc _) | exact (Calm.refl _).alloc _ | exact Calm.refl _))).mono ?_;rintro e w4 ⟨⟨a1,rfl,hN4⟩,hc4⟩;have hcx : Calm w2 w4:=Calm.trans (by first | exact Below.drew (Calm.refl _) | exact Below.drew ((Calm.refl _).alloc _) | exact (Calm.refl _).alloc _ | exact Calm.refl _) hc4)
      |(go_at_call 62;refine (KL1.out a1 _ (HC2.out.trans (hcx.trans (by first | exact Calm.refl _ | exact (Calm.refl _).alloc _))) ((hN4.calm (by first | exact Calm.refl _ | exact (Calm.refl _).alloc _)).u)).mono ?_;rintro e w5 ⟨rfl,hc5⟩;have hcy : Calm w2 w5:=Calm.trans (hcx.trans (by first | exact Calm.refl _ | exact (Calm.refl _).alloc _)) hc5;(first | (with_reducible have hZ5 : FiveB w5 w4.heap.size (.bool false) (.slice none 0 0) (.bool false) (.slice none 0 0) (.bool false):=FiveB.calm (FiveB.new w4 _ _ _ _ _ _) hc5) | (with_reducible have hZ5 : FiveB w5 w2.heap.size (.bool false) (.slice none 0 0) (.bool false) (.slice none 0 0) (.bool false):=FiveB.calm (FiveB.calm (five_drew w2 _) hc4) hc5) | skip);try (have z0:=hZ5.c0;have z1:=hZ5.c1;have z2:=hZ5.c2;have z3:=hZ5.c3;have z4:=hZ5.c4;have f0:=hZ5.fz 0;have f1:=hZ5.fz 1;have f2:=hZ5.fz 2;have f3:=hZ5.fz 3;have f4:=hZ5.fz 4)))
    all_goals
     go_wp2_with fail
     go_meet
     case rel=>
      first
       |(refine ⟨rfl,rfl,Lib.hid ?_⟩;with_reducible exact hcy.alloc _)
       |(refine ⟨rfl,rfl,Lib.hid ?_⟩;with_reducible exact hcy)
       |(refine ⟨rfl,rfl,Lib.hid ?_⟩;with_reducible exact calm5 hcy hcx.size _ _ _ _ _)
       |(refine ⟨rfl,rfl,Lib.hid ?_⟩;with_reducible exact calm5 hcy (Nat.le_refl _) _ _ _ _ _)
   case rest=>
    obtain ⟨rfl,rfl,HR⟩:=hcut
    have hz:=HBz.out.calm (HC2.out.trans HR.out)
    have z0:=hz.c0
    have z1:=hz.c1
    have z2:=hz.c2
    have z3:=hz.c3
    have z4:=hz.c4
    have f0:=hz.fz 0
    have f1:=hz.fz 1
    have f2:=hz.fz 2
    have f3:=hz.fz 3
    have f4:=hz.fz 4
    clear hz
    go_wp2_with fail
    refine bodyPost_ret (v:=.tuple #[.agg #[.bool false,.slice none 0 0,.bool false,.slice none 0 0,.bool false],.bool false,.int .i64 x]) ?_ rfl ⟨.inl (by rw [HX.out];exact ⟨rfl,rfl⟩),HC8.out _ (HC2.out.trans HR.out) _ _ _ _ _⟩
    rw [results_cell_tt rfl]
    go_simp
  ·obtain ⟨hmx,rfl⟩:=HE.out m x rfl
   have HX:=Lib.hid (HX3.out m (by trivial) rfl)
   obtain ⟨ml,hml⟩ : ∃ ml,m.left.parts.length = ml:=⟨_,rfl⟩
   obtain ⟨mr,hmr⟩ : ∃ mr,m.right.parts.length = mr:=⟨_,rfl⟩
   obtain ⟨tl,htl⟩ : ∃ tl,m.left.rest = tl:=⟨_,rfl⟩
   obtain ⟨tr,htr⟩ : ∃ tr,m.right.rest = tr:=⟨_,rfl⟩
   have KL1 : Hid (∀ a1 W,Calm w1 W → RuleU W a1 r.turn → Calls Tryz.prog 62 #[.agg #[.bool ex,.slice a1.AL nr a1.cl,.bool rr,.slice a1.AR nl a1.cr,.bool lr],.agg #[.slice A n pc,.bool re]] W fun e w'=>(∃ a2,e = .returned (.tuple #[.agg #[.bool false,.slice a2.AL ml a2.cl,.bool tl,.slice a2.AR mr a2.cr,.bool tr],.bool true,.int .i64 0]) ∧ RuleN w' W.heap.size a2 m) ∧ Calm W w'):=fun a1 W hW hu=>(KL.out a1 W hW hu).mono fun e w' h=>by
    obtain ⟨h1,h2⟩:=h
    refine ⟨?_,h2⟩
    rcases h1 with ⟨h1,_⟩ | ⟨m',a2,h1,h3,h4⟩
    ·cases h1
    ·obtain rfl : m = m':=by simpa using h1
     refine ⟨a2,?_,h4⟩
     rw [h3]
     unfold ruleV
     rw [hmx,hml,hmr,htl,htr]
   have KT2 : Hid (∀ a2 W,RuleN W w1.heap.size a2 m → Calls Tryz.prog 63 #[.agg #[.bool false,.slice a2.AL ml a2.cl,.bool tl,.slice a2.AR mr a2.cr,.bool tr]] W fun e w'=>(∃ a3,e = .returned (.agg #[.bool false,.slice a3.AL mr a3.cl,.bool tr,.slice a3.AR ml a3.cr,.bool tl]) ∧ ruleV a3 m.turn = .agg #[.bool false,.slice a3.AL mr a3.cl,.bool tr,.slice a3.AR ml a3.cr,.bool tl] ∧ RuleN w' W.heap.size a3 m.turn) ∧ Calm W w'):=fun a2 W hN=>by
    have:=rturn_c m a2 W hN.u
    unfold ruleV at this
    rw [hmx,hml,hmr,htl,htr] at this
    refine this.mono fun e w' h=>?_
    obtain ⟨⟨a3,h1,h2⟩,h3⟩:=h
    refine ⟨⟨a3,?_,?_,h2⟩,h3⟩
    ·rw [h1]
     unfold ruleV Rule.turn
     simp only [hmx,hml,hmr,htl,htr]
    ·unfold ruleV Rule.turn
     simp only [hmx,hml,hmr,htl,htr]
   clear KL HX1 HX2 HX3 HE hmx hml hmr htl htr
   go_cut [8,9,10] (fun s t u wx=>∃ B10 a2,s = .pointer (some ⟨B10,0,none⟩) ∧ t = .bool true ∧ u = .int .i64 0 ∧ Hid (LineB w2 wx B10 w1.heap.size a2 m (.bool false) (.slice a2.AL ml a2.cl) (.bool tl) (.slice a2.AR mr a2.cr) (.bool tr)))
   case first=>
    go_region_held3 (fun W=>W.cell? ⟨w.heap.size,0,none⟩ = some (.bool ex) ∧ W.cell? ⟨w.heap.size,1,none⟩ = some (.slice a.AL nl a.cl) ∧ W.cell? ⟨w.heap.size,2,none⟩ = some (.bool lr) ∧ W.cell? ⟨w.heap.size,3,none⟩ = some (.slice a.AR nr a.cr) ∧ W.cell? ⟨w.heap.size,4,none⟩ = some (.bool rr) ∧ W.cell? ⟨w.heap.size + 1,0,none⟩ = some (.slice A n pc) ∧ W.cell? ⟨w.heap.size + 1,1,none⟩ = some (.bool re))
     (first
      |with_reducible exact HSX.out _ (calm5 hcy hcx.size _ _ _ _ _)
      |with_reducible exact HSX.out _ (calm5 hcy (Nat.le_refl _) _ _ _ _ _)
      |with_reducible exact HSX.out _ hcy
      |with_reducible exact HSX.out _ (hcy.alloc _)
      |with_reducible exact HSX.out _ hcx
      |with_reducible exact HSX.out _ (hcx.alloc _)
      |with_reducible exact HSX.out _ (Calm.refl _)
      |with_reducible exact HSX.out _ (Below.drew (Calm.refl _))
      |with_reducible exact HSX.out _ (Below.drew ((Calm.refl _).alloc _))
      |with_reducible exact HSX.out _ ((Calm.refl _).alloc _)
      |go_keep)
     (first
      |(go_at_call 63;refine (KT.out _ (HC2.out.trans (by first | exact Below.drew (Calm.refl _) | exact Below.drew ((Calm.refl _).alloc _) | exact (Calm.refl _).alloc _ | exact Calm.refl _))).mono ?_;rintro e w4 ⟨⟨a1,rfl,hN4⟩,hc4⟩;have hcx : Calm w2 w4:=Calm.trans (by first | exact Below.drew (Calm.refl _) | exact Below.drew ((Calm.refl _).alloc _) | exact (Calm.refl _).alloc _ | exact Calm.refl _) hc4)
      |(go_at_call 62;refine (KL1.out a1 _ (HC2.out.trans (hcx.trans (by first | exact Calm.refl _ | exact (Calm.refl _).alloc _))) ((hN4.calm (by first | exact Calm.refl _ | exact (Calm.refl _).alloc _)).u)).mono ?_;rintro e w5 ⟨⟨a2,rfl,hN5⟩,hc5⟩;have hcy : Calm w2 w5:=Calm.trans (hcx.trans (by first | exact Calm.refl _ | exact (Calm.refl _).alloc _)) hc5;(first | (with_reducible have hZ5 : FiveB w5 w4.heap.size (.bool false) (.slice none 0 0) (.bool false) (.slice none 0 0) (.bool false):=FiveB.calm (FiveB.new w4 _ _ _ _ _ _) hc5) | (with_reducible have hZ5 : FiveB w5 w2.heap.size (.bool false) (.slice none 0 0) (.bool false) (.slice none 0 0) (.bool false):=FiveB.calm (FiveB.calm (five_drew w2 _) hc4) hc5) | skip);try (have z0:=hZ5.c0;have z1:=hZ5.c1;have z2:=hZ5.c2;have z3:=hZ5.c3;have z4:=hZ5.c4;have f0:=hZ5.fz 0;have f1:=hZ5.fz 1;have f2:=hZ5.fz 2;have f3:=hZ5.fz 3;have f4:=hZ5.fz 4)))
    all_goals
     have hs7:=hc4.size
     have hs8:=hcx.size
     have hs9:=hc5.size
     simp [go_sem] at hs7
     go_wp2_with fail
     go_meet
     case rel=>
      first
       |(refine ⟨_,a2,rfl,rfl,rfl,Lib.hid ?_⟩;with_reducible exact lineB_new hcy (by omega) hN5)
       |(refine ⟨_,a2,rfl,rfl,rfl,Lib.hid ?_⟩;with_reducible exact lineB_set hZ5 hcy hs8 (by simp [go_sem]) (by simp [go_sem];omega) hN5)
       |(refine ⟨_,a2,rfl,rfl,rfl,Lib.hid ?_⟩;with_reducible exact lineB_set hZ5 hcy (Nat.le_refl _) (by omega) (by omega) hN5)
   case rest=>
    obtain ⟨B10,a2,rfl,rfl,rfl,HR⟩:=hcut
    have hf:=HR.out.five
    have b0:=hf.c0
    have b1:=hf.c1
    have b2:=hf.c2
    have b3:=hf.c3
    have b4:=hf.c4
    have KT3:=Lib.hid (KT2.out a2 wc HR.out.new)
    clear hf
    go_wp2_with fail
    refine KT3.out.mono ?_
    rintro e w9 ⟨⟨a3,rfl,hv3,hN9⟩,hc9⟩
    have HC9 : Hid (Calm w1 w9):=HC2.out.trans (HR.out.calm.trans hc9)
    have HN9 : Hid (∀ u0 u1 u2 u3 u4,RuleN (Go.Proofs.YtnlnclefedohkaaGreatDoor.set5 w9 (w.heap.size + 1 + 1) u0 u1 u2 u3 u4) w.heap.size a3 m.turn):=fun u0 u1 u2 u3 u4=>
     ((hN9.mono (show w1.heap.size ≤ _ from (HC2.out.trans HR.out.calm).size)).set5 hsz _ _ _ _ _).mono (by omega)
    have HV3:=Lib.hid hv3
    have hz:=HBz.out.calm HC9.out
    have z0:=hz.c0
    have z1:=hz.c1
    have z2:=hz.c2
    have z3:=hz.c3
    have z4:=hz.c4
    have f0:=hz.fz 0
    have f1:=hz.fz 1
    have f2:=hz.fz 2
    have f3:=hz.fz 3
    have f4:=hz.fz 4
    clear hz hv3 hN9 hc9 b0 b1 b2 b3 b4
    go_wp2_with fail
    refine bodyPost_ret (v:=.tuple #[.agg #[.bool false,.slice a3.AL mr a3.cl,.bool tr,.slice a3.AR ml a3.cr,.bool tl],.bool true,.int .i64 0]) ?_ rfl ⟨.inr ⟨m.turn,a3,HX.out,by rw [HV3.out],HN9.out _ _ _ _ _⟩,HC8.out _ HC9.out _ _ _ _ _⟩
    rw [results_cell_tt rfl]
    go_simp
 ·have HX:=Lib.hid (HX1.out hv0)
  have hv1 : (v == 0) = false:=by rw [beq_eq_false_iff_ne];exact hv0
  have hz:=HBz.out.calm hc2
  have z0:=hz.c0
  have z1:=hz.c1
  have z2:=hz.c2
  have z3:=hz.c3
  have z4:=hz.c4
  have f0:=hz.fz 0
  have f1:=hz.fz 1
  have f2:=hz.fz 2
  have f3:=hz.fz 3
  have f4:=hz.fz 4
  clear hz hc2
  go_wp2_with fail
  refine bodyPost_ret (v:=.tuple #[.agg #[.bool false,.slice none 0 0,.bool false,.slice none 0 0,.bool false],.bool false,.int .i64 v]) ?_ rfl ⟨.inl (by rw [HX.out];exact ⟨rfl,rfl⟩),HC8.out _ HC2.out _ _ _ _ _⟩
  rw [results_cell_tt rfl]
  go_simp
end Go.Proofs.YtnlnclefedohkaaGreatDoor
