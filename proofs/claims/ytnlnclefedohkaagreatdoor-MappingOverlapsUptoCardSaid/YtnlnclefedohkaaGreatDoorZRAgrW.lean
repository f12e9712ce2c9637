/- Walk: the reference's Agree. -/
import Derived.Deep.RegionLaw
import Derived.Deep.RegionHeld3
import Derived.Test.YtnlnclefedohkaaGreatDoorZCopyP
import Derived.Test.YtnlnclefedohkaaGreatDoorZWalkI
import Derived.Test.YtnlnclefedohkaaGreatDoorZEntM
import Derived.Test.YtnlnclefedohkaaGreatDoorZFixW
import Derived.Test.YtnlnclefedohkaaGreatDoorZAgrW
import Derived.Test.YtnlnclefedohkaaGreatDoorZRNarW
import Derived.Test.YtnlnclefedohkaaGreatDoorZRMeetY
set_option linter.unusedVariables false
set_option linter.unusedSimpArgs false
namespace Go.Proofs.YtnlnclefedohkaaGreatDoor
open Go Go.RowKit Sy
theorem step_app {ops : Array Oper} {o : Oper} {a : Act} {w : World} {K : Act → World → Prop} {Q : Exit → Act → World → Prop} {E : Prop}
  (hg : o.guard = none) (s x : Operand) (hop : o.op = Op.call { callee:=Callee.builtin Builtin.append,args:=#[s,x],argTypes:=#[38,38] })
  (w0 : World) (v : Value) (ls : List Str) (hs : a.eval s = v) (hown : OwnS w0 w v ls) (AX : Option Addr) (m c : Nat) (hx : a.eval x = .slice AX m c) (news : List Str) (hm : news.length = m) (hrd : StrsU w AX news) (hl : ls.length + m ≤ 4000000)
  (hK : ∀ v' w',OwnS w0 w' v' (ls ++ news) → K (a.put o.dst v') w') :
  if Region.wanted o (yielded ops a.tmps) = true then Oper.wp Tryz.prog o a w K Q else E:=by
 have hw : Region.wanted o (yielded ops a.tmps) = true:=by simp [Region.wanted,hg]
 rw [if_pos hw]
 obtain ⟨i0,hi0,hz0,hz1,hz2⟩:=info_parts info_strE
 have hrun : ∃ v' w',(Builtin.append_ #[38,38] o.type #[v,.slice AX m c]).run Tryz.prog w = .ok v' w' ∧ OwnS w0 w' v' (ls ++ news):=by
  cases AX with
  |none=>
   have h0 : news = []:=by
    cases news with
    |nil=>rfl
    |cons y t=>
     obtain ⟨b,o',hA,_⟩:=hrd.at_ (by simp)
     cases hA
   subst h0
   obtain rfl : 0 = m:=by simpa using hm
   refine ⟨v,w,?_,by rw [List.append_nil];exact hown⟩
   rcases hown.own.2 with ⟨rfl,h1⟩ | ⟨g,cap,cur,rfl,_,_,hnc,_⟩
   ·simp [Builtin.append_,run_underlying Tryz.underlying38,sizeOf,typeInfo,hi0,Builtin.lenOf,Builtin.firstCells]
   ·simp [Builtin.append_,run_underlying Tryz.underlying38,sizeOf,typeInfo,hi0,Builtin.lenOf,Builtin.firstCells,hnc,storeCells]
  |some ad=>
   have hnews : ∀ (j : Nat) (u : Value),(strCells news)[j]? = some u → w.cell? (ad.add j) = some u:=fun j u hj=>by
    simp only [strCells,List.getElem?_map,Option.map_eq_some_iff] at hj
    obtain ⟨l,hl1,rfl⟩:=hj
    obtain ⟨b,o',hA,hb,hk⟩:=hrd.at_ (by have:=(List.getElem?_eq_some_iff.1 hl1).1;omega)
    obtain rfl:=Option.some.inj hA
    simpa [Addr.add_lit] using hk j l hl1
   have h1 : ∀ u ∈ strCells news,u.oneCell' = true:=fun u hu=>by
    obtain ⟨l,_,rfl⟩:=List.mem_map.1 hu
    rfl
   obtain ⟨v',w',hr,h2,h3,_⟩:=run_append_own (P:=Tryz.prog) w w0.heap.size 38 o.type 9 i0 _ 1 16 Tryz.underlying38 hi0 hz0 hz1 hz2 rfl (by decide) v ls.length (strCells ls) hown.own ad m c (strCells news) (by rw [strCells,List.length_map,hm,Nat.mul_one]) hnews h1 (by unfold maxLen;omega) (by omega) hown.calm.size
   exact ⟨v',w',hr,Below.trans hown.calm (owns_below hown.own hown.calm.size h3),by rw [List.length_append,hm];simpa [strCells] using h2⟩
 obtain ⟨v',w',hr,h2⟩:=hrun
 unfold Oper.wp
 simp [execOp,hop,resolve,invoke,builtin,hs,hx,Result.andThen]
 rw [hr]
 exact hK v' w' h2

end Go.Proofs.YtnlnclefedohkaaGreatDoor
set_option linter.unusedVariables false
set_option linter.unusedSimpArgs false
namespace Go.Proofs.YtnlnclefedohkaaGreatDoor
open Go Go.RowKit Sy

theorem rcopy_v (p : Pat) (A : Option Addr) (n c : Nat) (re : Bool) (w : World) (hr : StrsU w A p.parts) (hn : p.parts.length = n) (hre : p.rest = re) :
  Calls Tryz.prog 93 #[.agg #[.slice A n c,.bool re]] w fun e w'=>(∃ A2 c2,e = .returned (.agg #[.slice A2 n c2,.bool re]) ∧ NewS w' w.heap.size A2 c2 p.parts) ∧ Calm w w':=by
 obtain ⟨w1,hw1⟩ : ∃ w1,w1 = (w.alloc (.cells #[.slice A n c,.bool re] 40)).alloc (.cells #[.slice none 0 0,.bool false] 40):=⟨_,rfl⟩
 have hc1 : Calm w w1:=by rw [hw1];exact ((Calm.refl w).alloc _).alloc _
 have hz1 : w1.heap.size = w.heap.size + 2:=by rw [hw1];simp
 have k0 : w1.cell? ⟨w.heap.size,0,none⟩ = some (.slice A n c):=by rw [hw1];simp
 have k1 : w1.cell? ⟨w.heap.size,1,none⟩ = some (.bool re):=by rw [hw1];simp
 have k2 : w1.cell? ⟨w.heap.size + 1,0,none⟩ = some (.slice none 0 0):=by rw [hw1];simp
 have k3 : w1.cell? ⟨w.heap.size + 1,1,none⟩ = some (.bool false):=by rw [hw1];simp
 have f0 : w1.frozen? ⟨w.heap.size + 1,0,none⟩ = false:=by rw [hw1];simp
 have f1 : w1.frozen? ⟨w.heap.size + 1,1,none⟩ = false:=by rw [hw1];simp
 have hlen:=hr.len
 rw [hn] at hlen
 have HW:=Lib.hid hw1
 have HC:=Lib.hid hc1
 have HN:=Lib.hid hn
 have HK:=Lib.hid (And.intro k0 (And.intro k1 (And.intro k2 (And.intro k3 (And.intro f0 (And.intro f1 hz1))))))
 have HR:=Lib.hid (hr.calm hc1)
 have HE:=Lib.hid hr.each
 clear hw1 hc1 hr hn hz1
 go_enter Tryz.func93,Tryz.ntmps93
 go_wp2
 rw [← HW.out]
 go_region_law ((refine step_app rfl (.const (.slice none 0 0)) (.tmp 4) rfl w1 (.slice none 0 0) [] rfl (OwnS.nil (by first | exact Calm.refl _ | exact (Calm.refl _).drewN _ | exact Below.drew (Calm.refl _))) A n c (by simp [Act.eval,Act.put]) p.parts HN.out (HR.out.calm (by first | exact Calm.refl _ | exact (Calm.refl _).drewN _ | exact Below.drew (Calm.refl _))) (by simp;omega) ?_;intro v5 w5 hown5;obtain ⟨A9,c9,hv9,hns9⟩:=own_newS hown5.own HR.out.len HE.out;simp only [List.nil_append] at hv9 hns9;rw [HN.out] at hv9;subst hv9;have z1:=hown5.calm.at_ HK.out.2.1 (by rw [HK.out.2.2.2.2.2.2];omega);have z2:=hown5.calm.at_ HK.out.2.2.1 (by rw [HK.out.2.2.2.2.2.2];omega);have z3:=hown5.calm.at_ HK.out.2.2.2.1 (by rw [HK.out.2.2.2.2.2.2];omega);have z4:=(hown5.calm.frozen (p:=⟨w.heap.size + 1,0,none⟩) (by rw [HK.out.2.2.2.2.2.2];show w.heap.size + 1 < _;omega)).trans HK.out.2.2.2.2.1;have z5:=(hown5.calm.frozen (p:=⟨w.heap.size + 1,1,none⟩) (by rw [HK.out.2.2.2.2.2.2];show w.heap.size + 1 < _;omega)).trans HK.out.2.2.2.2.2.1))
 all_goals
  have hc3 : Calm w ((w5.setCell ⟨w.heap.size + 1,0,none⟩ (.slice A9 n c9)).setCell ⟨w.heap.size + 1,1,none⟩ (.bool re)):=Below.setCell (Below.setCell (HC.out.trans hown5.calm) (by show w.heap.size ≤ w.heap.size + 1;omega) _) (by show w.heap.size ≤ w.heap.size + 1;omega) _
  have hn3:=((hns9.set (p:=⟨w.heap.size + 1,0,none⟩) (.slice A9 n c9) (by show w.heap.size + 1 < _;have:=HK.out.2.2.2.2.2.2;simp;omega)).set (p:=⟨w.heap.size + 1,1,none⟩) (.bool re) (by show w.heap.size + 1 < _;have:=HK.out.2.2.2.2.2.2;simp;omega))
  have hn4:=hn3.mono (show w.heap.size ≤ _ by have:=HK.out.2.2.2.2.2.2;simp;omega)
  clear hns9 hn3 k0 k1 k2 k3 f0 f1 hown5
  try simp only [List.getElem_toArray,List.getElem_cons_succ,List.getElem_cons_zero,Act.put,List.setIfInBounds_toArray,List.set_cons_succ,List.set_cons_zero]
  go_wp2
  refine bodyPost_ret (v:=.agg #[.slice A9 n c9,.bool re]) ?_ rfl ⟨⟨A9,c9,rfl,hn4⟩,hc3⟩
  rw [results_cell1 rfl]
  go_simp

end Go.Proofs.YtnlnclefedohkaaGreatDoor
set_option linter.unusedVariables false
set_option linter.unusedSimpArgs false
namespace Go.Proofs.YtnlnclefedohkaaGreatDoor
open Go Go.RowKit Sy

set_option maxHeartbeats 8000000 in
theorem rfix_c (p : Pat) (k : Nat) (c : Str) (A : Option Addr) (n cp : Nat) (re : Bool) (w : World) (hr : StrsR w A p.parts) (hn : p.parts.length = n) (hre : p.rest = re) (hc : c.length ≤ 16384) (hk : k ≤ 16384) (hok : ∀ s ∈ p.parts,partOk s = true) :
  Calls Tryz.prog 75 #[.agg #[.slice A n cp,.bool re],.int .i64 k,.string (bs c)] w fun e w'=>FixEnd (fixR p.parts k c) n re w.heap.size e w' ∧ Calm w w':=by
 obtain ⟨w1,hw1⟩ : ∃ w1,w1 = (w.alloc (.cells #[.slice A n cp,.bool re] 40)).alloc (.cells #[.slice none 0 0,.bool false] 40):=⟨_,rfl⟩
 obtain ⟨B,hB⟩ : ∃ B,w.heap.size = B:=⟨_,rfl⟩
 have hc1 : Calm w w1:=by rw [hw1];exact ((Calm.refl w).alloc _).alloc _
 have hb0 : TwoB w1 B (.slice A n cp) (.bool re):=by
  rw [hw1,← hB]
  exact (TwoB.new w _ _ _).calm ((Calm.refl _).alloc _)
 have hb1 : TwoB w1 (B + 1) (.slice none 0 0) (.bool false):=by
  rw [hw1,← hB]
  have:=TwoB.new (w.alloc (.cells #[.slice A n cp,.bool re] 40)) (.slice none 0 0) (.bool false) 40
  simpa using this
 have hsz : w1.heap.size = B + 2:=by rw [hw1,← hB];simp
 have KCp:=rcopy_v p A n cp re w1 (hr.toU.calm hc1) hn hre
 have hns : n ≤ 16384:=by rw [← hn];exact hr.len
 have HE : Hid ((∀ s ∈ p.parts,s.length ≤ 16384) ∧ ∀ s ∈ p.parts,partOk s = true):=⟨hr.each,hok⟩
 have HW:=Lib.hid hw1
 have HBs:=Lib.hid hB
 have HC:=Lib.hid hc1
 have HB0:=Lib.hid hb0
 have HB1:=Lib.hid hb1
 have HN:=Lib.hid hn
 have HSz:=Lib.hid hsz
 clear hr hn hre hok hw1 hB hc1 hb0 hb1 hsz
 go_enter Tryz.func75,Tryz.ntmps75
 go_wp2_with fail
 rw [← HW.out,HBs.out]
 refine KCp.mono ?_
 rintro e w2 ⟨⟨A2,c2,rfl,hN2⟩,hc2⟩
 obtain ⟨w3,hw3⟩ : ∃ w3,w3 = w2.alloc (.cells #[.slice A2 n c2,.bool re] 40):=⟨_,rfl⟩
 obtain ⟨D,hD⟩ : ∃ D,w2.heap.size = D:=⟨_,rfl⟩
 have hc23 : Calm w2 w3:=by
  show Below _ _ _
  rw [hw3]
  exact (Calm.refl _).alloc _
 have HB3 : Hid (TwoB w3 D (.slice A2 n c2) (.bool re)):=by
  show TwoB _ _ _ _
  rw [hw3,← hD]
  exact TwoB.new w2 _ _ _
 have HB4 : Hid (TwoB w3 (B + 1) (.slice none 0 0) (.bool false)):=HB1.out.calm (Calm.trans hc2 hc23)
 have HC3 : Hid (Calm w w3):=HC.out.trans (Calm.trans hc2 hc23)
 have HN3 : Hid (NewS w3 (B + 2) A2 c2 p.parts):=(hN2.calm hc23).mono (by have:=HSz.out;omega)
 have HGd : Hid (∀ g o,A2 = some ⟨g,o,none⟩ → ¬ g = D ∧ ¬ D = g):=fun g o he=>by
  have h1 : g < w2.heap.size:=by
   obtain ⟨cs,hh⟩:=hN2.row _ he
   exact heap_lt hh
  exact ⟨by omega,by omega⟩
 have HDs : Hid (w2.heap.size = D ∧ ¬ D = B + 1 ∧ ¬ B + 1 = D):=⟨hD,by have:=HSz.out;have:=hc2.size;omega,by have:=HSz.out;have:=hc2.size;omega⟩
 have HW3:=Lib.hid hw3
 clear hN2 hc2 hc23 hw3 hD
 go_wp2_with fail
 rw [← HW3.out,HDs.out.1]
 go_loopw [1,17] (fun v u wr=>∃ (i j : Nat),(i ≤ n ∧ j ≤ 16384) ∧ u = .int .i64 i ∧ v = .int .i64 j ∧ Hid (FixAt p.parts k c i j) ∧ wr = w3) (fun _ u _=>n - (intOf u).toNat)
 case atStart=>exact ⟨0,k,⟨Nat.zero_le _,hk⟩,rfl,rfl,FixAt.start _ _ _,rfl⟩
 case round=>
  obtain ⟨i,j,⟨hi,hj6⟩,rfl,rfl,HF,hwr⟩:=hrel
  subst hwr
  have d0:=HB3.out.c0
  have d1:=HB3.out.c1
  have e0:=HB4.out.c0
  have e1:=HB4.out.c1
  have g0:=HB4.out.fz 0
  have g1:=HB4.out.fz 1
  by_cases hlt : i < n
  ·obtain ⟨g,o,x,rfl,hBg,hx,hxl,hcx⟩:=HN3.out.get (k:=i) (by rw [HN.out];exact hlt)
   have hxe:=HE.out.1 x (List.mem_of_getElem? hx)
   have hso:=starOk_iff (HE.out.2 x (List.mem_of_getElem? hx))
   have HX:=Lib.hid hx
   clear hx
   rcases hs : isStar x with _ | _
   ·have kc:=star_v x false [] wr hxe (by rw [hso,hs]) (by rw [starSuf,hso,hs];rfl)
    have HS:=Lib.hid hs
    clear hs e0 e1 g0 g1 hso
    go_wp2_with fail
    refine kc.mono ?_
    rintro e w' ⟨rfl,rfl⟩
    go_wp2_with fail
    go_roundw
    case rel=>exact ⟨i + 1,j,⟨by omega,by omega⟩,by go_num,rfl,HF.out.go HX.out HS.out,trivial⟩
    case measure=>simp [intOf];omega
   ·have kc:=star_v x true x.tail wr hxe (by rw [hso,hs]) (by rw [starSuf,hso,hs];rfl)
    have HS:=Lib.hid hs
    clear hs hso
    cases j with
    |zero=>
     have hfr:=HN3.out.free (o + i)
     have hcat : bs c ++ bs x.tail = bs (c ++ x.tail):=(bs_append c x.tail).symm
     have n0 : ¬ g = D:=(HGd.out g o rfl).1
     have n1 : ¬ D = g:=(HGd.out g o rfl).2
     have n4:=HDs.out.2.1
     have n5:=HDs.out.2.2
     have n2 : ¬ g = B + 1:=by omega
     have n3 : ¬ B + 1 = g:=by omega
     go_wp2_with fail
     refine kc.mono ?_
     rintro e w' ⟨rfl,rfl⟩
     go_wp2_with fail
     have hset : NewS (wr.setCell ⟨g,o + i,none⟩ (.string (bs (c ++ x.tail)))) (B + 2) (some ⟨g,o,none⟩) c2 (p.parts.set i (c ++ x.tail)):=HN3.out.put (by rw [HN.out];exact hlt) (by rw [List.length_append,List.length_tail];omega)
     have hb4:=two_put (two_other (o:=o + i) HB4.out n2 (.string (bs (c ++ x.tail)))) (.slice (some ⟨g,o,none⟩) n c2) (.bool re)
     have q0:=hb4.c0
     have q1:=hb4.c1
     refine bodyPost_ret (v:=.agg #[.slice (some ⟨g,o,none⟩) n c2,.bool re]) ?_ rfl ⟨⟨_,_,rfl,?_⟩,?_⟩
     ·rw [results_cell1 rfl]
      go_simp
     ·rw [HF.out.hit HX.out HS.out]
      exact ((hset.set (p:=⟨B + 1,0,none⟩) _ (by show B + 1 < B + 2;omega)).set (p:=⟨B + 1,1,none⟩) _ (by show B + 1 < B + 2;omega)).mono (by have:=HBs.out;omega)
     ·exact Below.setCell (p:=⟨B + 1,1,none⟩) (Below.setCell (p:=⟨B + 1,0,none⟩) (Below.setCell (p:=⟨g,o + i,none⟩) HC3.out (by have:=HBs.out;show w.heap.size ≤ g;omega) _) (by have:=HBs.out;show w.heap.size ≤ B + 1;omega) _) (by have:=HBs.out;show w.heap.size ≤ B + 1;omega) _
    |succ j=>
     clear e0 e1 g0 g1
     have hj : ((j + 1 : Nat) : Int) ≠ 0:=by omega
     go_wp2_with fail
     refine kc.mono ?_
     rintro e w' ⟨rfl,rfl⟩
     go_wp2_with fail
     go_roundw
     case rel=>exact ⟨i + 1,j,⟨by omega,by omega⟩,by go_num,by go_num,HF.out.pass HX.out HS.out,trivial⟩
     case measure=>simp [intOf];omega
  ·obtain rfl : i = n:=by omega
   have hfin : fixR p.parts k c = p.parts:=HF.out.done (by rw [HN.out];exact Nat.le_refl _)
   go_wp2_with fail
   have hb4:=two_put HB4.out (.slice A2 i c2) (.bool re)
   have q0:=hb4.c0
   have q1:=hb4.c1
   refine bodyPost_ret (v:=.agg #[.slice A2 i c2,.bool re]) ?_ rfl ⟨⟨_,_,rfl,?_⟩,?_⟩
   ·rw [results_cell1 rfl]
    go_simp
   ·rw [hfin]
    exact ((HN3.out.set (p:=⟨B + 1,0,none⟩) _ (by show B + 1 < B + 2;omega)).set (p:=⟨B + 1,1,none⟩) _ (by show B + 1 < B + 2;omega)).mono (by have:=HBs.out;omega)
   ·exact Below.setCell (p:=⟨B + 1,1,none⟩) (Below.setCell (p:=⟨B + 1,0,none⟩) HC3.out (by have:=HBs.out;show w.heap.size ≤ B + 1;omega) _) (by have:=HBs.out;show w.heap.size ≤ B + 1;omega) _
end Go.Proofs.YtnlnclefedohkaaGreatDoor
set_option linter.unusedVariables false
set_option linter.unusedSimpArgs false
namespace Go.Proofs.YtnlnclefedohkaaGreatDoor
open Go Go.RowKit Sy
def capB (part c : Str) : Bool:=if isStar part then endsWith c part.tail && comp (c.take (c.length - part.tail.length)) else part == c
theorem capB_comp {part c : Str} (hs : isStar part = true) (hc : comp c = true) : capB part c = mtch part c:=by
 unfold capB mtch
 rw [if_pos hs,if_pos hs,comp_take hc]
 congr 1
 rw [decide_eq_decide]
 omega
theorem rcapt_one {part c : Str} (hs : isStar part = true) (hm : mtch part c = true) : rcapt part c = cap1 part c:=by
 unfold mtch at hm
 rw [if_pos hs,Bool.and_eq_true] at hm
 rw [rcapt,hs,hm.1]
 rfl
theorem rdet_one {a b : Str} (ha : isStar a = true) (hb : isStar b = false) (hp : partOk b = true) : detP a b = if capB a b then some (rcapt a b) else none:=by
 have hc : comp b = true:=by
  rcases hs : starOk b with _ | _
  ·simpa [partOk,hs] using hp
  ·rw [starOk_star hs] at hb
   cases hb
 rw [capB_comp ha hc,detP_swap,detP_one hb ha]
 rcases hm : mtch a b with _ | _
 ·rfl
 ·rw [if_pos rfl,if_pos rfl,rcapt_one ha hm]
set_option maxHeartbeats 1000000 in
theorem cap_a (part c : Str) (w : World) (hp : part.length ≤ 16384) (hc : c.length ≤ 20000) (hpo : partOk part = true) :
  Calls Tryz.prog 74 #[.string (bs part),.string (bs c)] w fun e w'=>e = .returned (.tuple #[.string (bs (rcapt part c)),.bool (capB part c)]) ∧ w = w':=by
 have hso:=starOk_iff hpo
 rcases hs : isStar part with _ | _
 ·have hv : Hid ((rcapt part c,capB part c) = ([],part == c)):=by show (_,_) = _;simp [rcapt,capB,hs]
  have hst:=star_v part false [] w hp (by rw [hso,hs]) (by rw [starSuf,hso,hs];rfl)
  clear hso
  go_enter Tryz.func74,Tryz.ntmps74
  go_wp2_with (go_at_call 73;refine hst.mono ?_;rintro e w' ⟨rfl,rfl⟩)
  go_ret2
  have h1:=congrArg Prod.fst hv.out
  have h2:=congrArg Prod.snd hv.out
  dsimp only at h1 h2
  refine ⟨?_,rfl⟩
  rw [h1,h2]
  rfl
 ·have hst:=star_v part true part.tail w hp (by rw [hso,hs]) (by rw [starSuf,hso,hs];rfl)
  obtain ⟨t,ht⟩ : ∃ t,part.tail = t:=⟨_,rfl⟩
  have htl : t.length ≤ 16384:=by rw [← ht,List.length_tail];omega
  rw [ht] at hst
  have HT:=Lib.hid ht
  clear hso ht
  have hsf:=hasSuffix_c c t w (by omega)
  rcases he : endsWith c t with _ | _
  ·have hv : Hid ((rcapt part c,capB part c) = ([],false)):=by show (_,_) = _;simp [rcapt,capB,hs,HT.out,he]
   rw [he] at hsf
   go_enter Tryz.func74,Tryz.ntmps74
   go_wp2_with (first | (go_at_call 73;refine hst.mono ?_;rintro e w' ⟨rfl,rfl⟩) | (go_at_call 108;refine hsf.mono ?_;rintro e w' ⟨rfl,rfl⟩))
   go_ret2
   have h1:=congrArg Prod.fst hv.out
   have h2:=congrArg Prod.snd hv.out
   dsimp only at h1 h2
   refine ⟨?_,rfl⟩
   rw [h1,h2]
   rfl
  ·have hle : t.length ≤ c.length:=(endsWith_iff.1 he).length_le
   have hv : Hid ((rcapt part c,capB part c) = (c.take (c.length - t.length),comp (c.take (c.length - t.length)))):=by
    show (_,_) = _
    simp only [rcapt,capB,hs,HT.out,he,Bool.and_self,if_true,Bool.true_and]
   rw [he] at hsf
   have hx:=bs_take c (c.length - t.length) (by omega)
   have hcm:=rcomp_c (c.take (c.length - t.length)) w (by rw [List.length_take];omega)
   have hi : ((c.length : Int) - (t.length : Int)) = ((c.length - t.length : Nat) : Int):=by omega
   go_enter Tryz.func74,Tryz.ntmps74
   go_wp2_with (first | (go_at_call 73;refine hst.mono ?_;rintro e w' ⟨rfl,rfl⟩) | (go_at_call 108;refine hsf.mono ?_;rintro e w' ⟨rfl,rfl⟩) | (go_at_call 106;refine hcm.mono ?_;rintro e w' ⟨rfl,rfl⟩))
   go_ret2
   have h1:=congrArg Prod.fst hv.out
   have h2:=congrArg Prod.snd hv.out
   dsimp only at h1 h2
   refine ⟨?_,rfl⟩
   rw [h1,h2]
   rfl
end Go.Proofs.YtnlnclefedohkaaGreatDoor
set_option linter.unusedVariables false
set_option linter.unusedSimpArgs false
namespace Go.Proofs.YtnlnclefedohkaaGreatDoor
open Go Go.RowKit Sy

theorem narL_in {r : Rule} {m : Pat} (h : Inner r.left r.right m) : narL r m = if 12 < (carryP r.left r.right m).parts.length then (none,43) else (some ⟨false,m,carryP r.left r.right m⟩,0):=by
 unfold narL
 rw [if_neg (by simpa using ruleErr_twin.2 h.tw),if_neg (by simpa using h.good),meetP_inside h.tw.lp h.good h.inn]
def NarOk (x : Pat) (w : World) (AR : Option Addr) (nR cR : Nat) (rR ok : Bool) : Prop:=(ok = false ∧ 12 < x.parts.length) ∨ (ok = true ∧ ¬ 12 < x.parts.length ∧ x.parts.length = nR ∧ x.rest = rR ∧ PatA w AR cR x)
theorem NarOk.calm {x : Pat} {w w' : World} {AR : Option Addr} {nR cR : Nat} {rR ok : Bool} (h : NarOk x w AR nR cR rR ok) (hc : Calm w w') : NarOk x w' AR nR cR rR ok:=by
 rcases h with h | ⟨h1,h2,h3,h4,h5⟩
 ·exact .inl h
 ·exact .inr ⟨h1,h2,h3,h4,h5.calm hc⟩
def NarAny (x : Pat) (w' : World) (e : Ending) : Prop:=∃ AL nL cL rL AR nR cR rR ok er,e = .returned (.tuple #[.agg #[.bool false,.slice AL nL cL,.bool rL,.slice AR nR cR,.bool rR],.bool ok,.int .i64 er]) ∧ NarOk x w' AR nR cR rR ok
theorem narAny_of {x m : Pat} {B : Nat} {e : Ending} {w' : World} (hs : SzP 8000 8000 x) (h : NarEnd (if 12 < x.parts.length then (none,43) else (some ⟨false,m,x⟩,0)) B e w') : NarAny x w' e:=by
 by_cases h12 : 12 < x.parts.length
 ·rw [if_pos h12] at h
  rcases h with ⟨_,h⟩ | ⟨n,a,h,_⟩
  ·exact ⟨none,0,0,false,none,0,0,false,false,43,h,.inl ⟨rfl,h12⟩⟩
  ·cases h
 ·rw [if_neg h12] at h
  rcases h with ⟨h,_⟩ | ⟨n,a,h,h1,h2⟩
  ·cases h
  ·obtain rfl : (⟨false,m,x⟩ : Rule) = n:=by simpa using h
   exact ⟨_,_,_,_,_,_,_,_,_,_,h1,.inr ⟨rfl,h12,rfl,rfl,⟨h2.r.u.toR (by show x.parts.length ≤ _;omega) (fun s hs'=>by have:=hs.each s hs';omega),h2.r.room,h2.r.cap⟩⟩⟩
structure RAg (w4 wr : World) (Mb nl : Nat) (re : Bool) (A0 : Option Addr) (c0 : Nat) (M : Pat) (r q : Rule) (g : Nat) (m : Pat) (Am : Option Addr) (cm : Nat) : Prop where
 calm : Calm w4 wr
 box : TwoB wr Mb (.slice Am nl cm) (.bool re)
 ia : Inner r.left r.right m
 ib : Inner q.left q.right m
 same : agE r q = if 12 < (carryP r.left r.right m).parts.length ∨ 12 < (carryP q.left q.right m).parts.length then (none,43) else (eqzP g m (carryP r.left r.right m) (carryP q.left q.right m),0)
 few : starN m < g
 room : g ≤ 13
 hm : OldNew wr (Mb + 1) A0 c0 M Am cm m
 nm : m.parts.length = nl ∧ m.rest = re
 sm : SzP (600 * (14 - g)) 600 m
 sx : SzP (600 * (14 - g)) 600 (carryP r.left r.right m)
 sy : SzP (600 * (14 - g)) 600 (carryP q.left q.right m)
theorem RAg.next {w4 wr w7 : World} {Mb nl : Nat} {re : Bool} {A0 : Option Addr} {c0 : Nat} {M : Pat} {r q : Rule} {g : Nat} {m : Pat} {Am : Option Addr} {cm : Nat} {X Y : Pat} (h : RAg w4 wr Mb nl re A0 c0 M r q (g + 1) m Am cm) (hX : carryP r.left r.right m = X) (hY : carryP q.left q.right m = Y) (hMb : w4.heap.size = Mb)
  (hl : (¬ 12 < X.parts.length ∧ ¬ 12 < Y.parts.length) ∧ X.parts.length = Y.parts.length) {k : Nat} {s t d : Str} (hd : diffR X.parts Y.parts 0 = some (k,s,t)) (hdet : detP s t = some d) {A5 : Option Addr} {c5 b5 : Nat} (hc : Calm wr w7)
  (h5 : NewS w7 b5 A5 c5 (fixR m.parts k d)) (e5 : wr.heap.size ≤ b5) :
  RAg w4 ((w7.setCell ⟨Mb,0,none⟩ (.slice A5 nl c5)).setCell ⟨Mb,1,none⟩ (.bool re)) Mb nl re A0 c0 M r q g (fixP m k d) A5 c5:=by
 have lx : (carryP r.left r.right m).parts.length ≤ 12:=by rw [hX];omega
 have ly : (carryP q.left q.right m).parts.length ≤ 12:=by rw [hY];omega
 have tx:=h.ia.twin lx
 have ty:=h.ib.twin ly
 have hsame:=h.same
 have hsx:=h.sx
 have hsy:=h.sy
 rw [hX] at tx lx hsame hsx
 rw [hY] at ty ly hsame hsy
 obtain ⟨hcc,_,hst⟩:=eq_step tx ty hl.2 h.few hd hdet
 obtain ⟨hsm,htm,_⟩:=diffR_mem hd
 obtain ⟨i1,e1⟩:=carry_step (k:=k) h.ia (by rw [hX];exact lx) hcc
 obtain ⟨i2,e2⟩:=carry_step (k:=k) h.ib (by rw [hY];exact ly) hcc
 rw [hX] at e1
 rw [hY] at e2
 have hroom:=h.room
 have hdl : d.length ≤ 600 * (14 - (g + 1)):=detP_len hdet (hsx.each s hsm) (hsy.each t htm)
 have hL : 600 * (14 - (g + 1)) + 600 = 600 * (14 - g):=by omega
 have sm:=hL ▸ h.sm.fix k hcc hdl
 have sx:=hL ▸ hsx.fix k hcc hdl
 have sy:=hL ▸ hsy.fix k hcc hdl
 have hlt:=h.box.lt
 have hm12 : m.parts.length ≤ 16384:=by have:=(patErr_iff.1 h.ia.good).2.2.1;omega
 have hg1 : 1 ≤ g:=by omega
 have sN:=smallN_mono (fixEnd_small h5 hm12 (fun z hz=>by have:=sm.each z hz;omega)) (B':=Mb + 1) (by omega)
 have lx' : (fixP X k d).parts.length = X.parts.length:=fixR_len _ _ _
 have ly' : (fixP Y k d).parts.length = Y.parts.length:=fixR_len _ _ _
 refine ⟨Below.setCell (p:=⟨Mb,1,none⟩) (Below.setCell (p:=⟨Mb,0,none⟩) (h.calm.trans hc) (by show w4.heap.size ≤ Mb;omega) _) (by show w4.heap.size ≤ Mb;omega) _,two_put (h.box.calm hc) _ _,i1,i2,?_,hst,by omega,.inr (smallN_set (smallN_set sN _ (by show Mb < _;omega)) _ (by show Mb < _;omega)),⟨(fixR_len _ _ _).trans h.nm.1,h.nm.2⟩,sm,by rw [e1];exact sx,by rw [e2];exact sy⟩
 rw [hsame,e1,e2,if_neg (by omega),if_neg (by rw [lx',ly'];omega)]
 unfold eqzP
 rw [if_neg (by simpa using hl.2),if_neg (by rw [lx',ly'];simpa using hl.2),eqP_go hd hdet]
set_option maxRecDepth 40000 in
set_option maxHeartbeats 16000000 in
theorem ragree_c (r q : Rule) (a b : Pl) (w : World) (hr : RuleU w a r) (hs : SmallR r) (hq : RuleU w b q) (ht : SmallR q) (z1 : ∀ s ∈ r.left.parts,s.length ≤ 250) (z2 : ∀ s ∈ r.right.parts,s.length ≤ 250) (z3 : ∀ s ∈ q.left.parts,s.length ≤ 250) (z4 : ∀ s ∈ q.right.parts,s.length ≤ 250) :
  Calls Tryz.prog 40 #[ruleV a r,ruleV b q] w fun e w'=>AgEnd (agE r q) w.heap.size e w' ∧ Calm w w':=by
 obtain ⟨nl,hnl⟩ : ∃ nl,r.left.parts.length = nl:=⟨_,rfl⟩
 obtain ⟨nr,hnr⟩ : ∃ nr,r.right.parts.length = nr:=⟨_,rfl⟩
 obtain ⟨lr,hlr⟩ : ∃ lr,r.left.rest = lr:=⟨_,rfl⟩
 obtain ⟨rr,hrr⟩ : ∃ rr,r.right.rest = rr:=⟨_,rfl⟩
 obtain ⟨ex,hex⟩ : ∃ ex,r.excl = ex:=⟨_,rfl⟩
 obtain ⟨ql,hql⟩ : ∃ ql,q.left.parts.length = ql:=⟨_,rfl⟩
 obtain ⟨qr,hqr⟩ : ∃ qr,q.right.parts.length = qr:=⟨_,rfl⟩
 obtain ⟨kl,hkl⟩ : ∃ kl,q.left.rest = kl:=⟨_,rfl⟩
 obtain ⟨kr,hkr⟩ : ∃ kr,q.right.rest = kr:=⟨_,rfl⟩
 obtain ⟨qx,hqx⟩ : ∃ qx,q.excl = qx:=⟨_,rfl⟩
 obtain ⟨w1,hw1⟩ : ∃ w1,w1 = ((w.alloc (.cells #[.bool ex,.slice a.AL nl a.cl,.bool lr,.slice a.AR nr a.cr,.bool rr] 52)).alloc (.cells #[.bool qx,.slice b.AL ql b.cl,.bool kl,.slice b.AR qr b.cr,.bool kr] 52)).alloc (.cells #[.slice none 0 0,.bool false] 40):=⟨_,rfl⟩
 have hc1 : Calm w w1:=by rw [hw1];exact (((Calm.refl w).alloc _).alloc _).alloc _
 have hbr : FiveB w1 w.heap.size (.bool ex) (.slice a.AL nl a.cl) (.bool lr) (.slice a.AR nr a.cr) (.bool rr):=by
  rw [hw1]
  exact (FiveB.new w _ _ _ _ _ _).calm (((Calm.refl _).alloc _).alloc _)
 have hbq : FiveB w1 (w.heap.size + 1) (.bool qx) (.slice b.AL ql b.cl) (.bool kl) (.slice b.AR qr b.cr) (.bool kr):=by
  rw [hw1]
  have:=(FiveB.new (w.alloc (.cells #[.bool ex,.slice a.AL nl a.cl,.bool lr,.slice a.AR nr a.cr,.bool rr] 52)) (.bool qx) (.slice b.AL ql b.cl) (.bool kl) (.slice b.AR qr b.cr) (.bool kr) 52).calm ((Calm.refl _).alloc (.cells #[.slice none 0 0,.bool false] 40))
  simpa using this
 have hbz : TwoB w1 (w.heap.size + 1 + 1) (.slice none 0 0) (.bool false):=by
  rw [hw1]
  have:=TwoB.new ((w.alloc (.cells #[.bool ex,.slice a.AL nl a.cl,.bool lr,.slice a.AR nr a.cr,.bool rr] 52)).alloc (.cells #[.bool qx,.slice b.AL ql b.cl,.bool kl,.slice b.AR qr b.cr,.bool kr] 52)) (.slice none 0 0) (.bool false) 40
  simpa using this
 obtain ⟨v,hv⟩ : ∃ v,ruleErr r = v:=⟨_,rfl⟩
 obtain ⟨u,hu⟩ : ∃ u,ruleErr q = u:=⟨_,rfl⟩
 have KR : Hid (∀ W,Calm w1 W → Calls Tryz.prog 57 #[.agg #[.bool ex,.slice a.AL nl a.cl,.bool lr,.slice a.AR nr a.cr,.bool rr]] W fun e w'=>e = .returned (.int .i64 v) ∧ Calm W w'):=fun W hW=>by
  have:=rrule_c r a W ((hr.calm hc1).calm hW) hs
  unfold ruleV at this
  rw [hnl,hnr,hlr,hrr,hex,hv] at this
  exact this
 have KQ : Hid (∀ W,Calm w1 W → Calls Tryz.prog 57 #[.agg #[.bool qx,.slice b.AL ql b.cl,.bool kl,.slice b.AR qr b.cr,.bool kr]] W fun e w'=>e = .returned (.int .i64 u) ∧ Calm W w'):=fun W hW=>by
  have:=rrule_c q b W ((hq.calm hc1).calm hW) ht
  unfold ruleV at this
  rw [hql,hqr,hkl,hkr,hqx,hu] at this
  exact this
 have hal : PatA w a.AL a.cl r.left:=⟨hr.left hs,hr.lroom,hr.lcap⟩
 have har : PatA w a.AR a.cr r.right:=⟨hr.right hs,hr.rroom,hr.rcap⟩
 have hbl : PatA w b.AL b.cl q.left:=⟨hq.left ht,hq.lroom,hq.lcap⟩
 have hbr2 : PatA w b.AR b.cr q.right:=⟨hq.right ht,hq.rroom,hq.rcap⟩
 have KM1 : Hid (∀ m,v = 0 → u = 0 → meetP r.left q.left = some m → ∀ W,Calm w1 W → Calls Tryz.prog 39 #[.agg #[.slice a.AL nl a.cl,.bool lr],.agg #[.slice b.AL ql b.cl,.bool kl]] W fun e w'=>(∃ A2 c2,e = .returned (.tuple #[.agg #[.slice A2 m.parts.length c2,.bool m.rest],.bool true]) ∧ SmallN w' W.heap.size ⟨A2,c2,m⟩) ∧ Calm W w'):=fun m h0 h1 hm W hW=>by
  have:=rmeet_yes r.left q.left m a.AL b.AL a.cl b.cl W ((hal.calm hc1).calm hW) ((hbl.calm hc1).calm hW) (ruleErr_twin.1 (hv.trans h0)).lp (ruleErr_twin.1 (hu.trans h1)).lp hm
  rw [hnl,hlr,hql,hkl] at this
  exact this
 have KM0 : Hid (v = 0 → u = 0 → meetP r.left q.left = none → ∀ W,Calm w1 W → Calls Tryz.prog 39 #[.agg #[.slice a.AL nl a.cl,.bool lr],.agg #[.slice b.AL ql b.cl,.bool kl]] W fun e w'=>e = .returned (.tuple #[.agg #[.slice none 0 0,.bool false],.bool false]) ∧ Calm W w'):=fun h0 h1 hm W hW=>by
  have:=rmeet_no r.left q.left a.AL b.AL a.cl b.cl W ((hal.calm hc1).calm hW) ((hbl.calm hc1).calm hW) (ruleErr_twin.1 (hv.trans h0)).lp (ruleErr_twin.1 (hu.trans h1)).lp hm
  rw [hnl,hlr,hql,hkl] at this
  exact this
 have KNa : Hid (∀ W m Am cm nm rm,Calm w1 W → PatA W Am cm m → m.parts.length = nm → m.rest = rm → Inner r.left r.right m → SzP 8000 8000 (carryP r.left r.right m) → Calls Tryz.prog 62 #[.agg #[.bool ex,.slice a.AL nl a.cl,.bool lr,.slice a.AR nr a.cr,.bool rr],.agg #[.slice Am nm cm,.bool rm]] W fun e w'=>NarAny (carryP r.left r.right m) w' e ∧ Calm W w'):=fun W m Am cm nm rm hW hPm h1 h2 hin hsz=>by
  have:=rnleft_c r m a nm cm rm Am W ((hr.calm hc1).calm hW) hs hPm h1 h2
  rw [narL_in hin] at this
  unfold ruleV at this
  rw [hnl,hnr,hlr,hrr,hex] at this
  exact this.mono fun e w' h=>⟨narAny_of hsz h.1,h.2⟩
 have KNb : Hid (∀ W m Am cm nm rm,Calm w1 W → PatA W Am cm m → m.parts.length = nm → m.rest = rm → Inner q.left q.right m → SzP 8000 8000 (carryP q.left q.right m) → Calls Tryz.prog 62 #[.agg #[.bool qx,.slice b.AL ql b.cl,.bool kl,.slice b.AR qr b.cr,.bool kr],.agg #[.slice Am nm cm,.bool rm]] W fun e w'=>NarAny (carryP q.left q.right m) w' e ∧ Calm W w'):=fun W m Am cm nm rm hW hPm h1 h2 hin hsz=>by
  have:=rnleft_c q m b nm cm rm Am W ((hq.calm hc1).calm hW) ht hPm h1 h2
  rw [narL_in hin] at this
  unfold ruleV at this
  rw [hql,hqr,hkl,hkr,hqx] at this
  exact this.mono fun e w' h=>⟨narAny_of hsz h.1,h.2⟩
 have HX1 : Hid (v ≠ 0 → agE r q = (none,v)):=fun h=>by
  unfold agE
  rw [hv,if_pos h]
 have HX2 : Hid (v = 0 → u ≠ 0 → agE r q = (none,u)):=fun h h2=>by
  unfold agE
  rw [hv,if_neg (by simpa using h),hu,if_pos h2]
 have HX3 : Hid (v = 0 → u = 0 → meetP r.left q.left = none → agE r q = (none,0)):=fun h h2 hm=>by
  unfold agE
  rw [hv,if_neg (by simpa using h),hu,if_neg (by simpa using h2),hm]
 have HX4 : Hid (∀ m,v = 0 → u = 0 → meetP r.left q.left = some m → ∀ w4 A2 c2,SmallN w4 w4.heap.size ⟨A2,c2,m⟩ ∨ PatA w4 A2 c2 m → RAg w4 (w4.alloc (.cells #[.slice A2 m.parts.length c2,.bool m.rest] 40)) w4.heap.size m.parts.length m.rest A2 c2 m r q (starN m + 1) m A2 c2):=fun m h h2 hm w4 A2 c2 hP=>by
  have ha : ruleErr r = 0:=hv.trans h
  have hb : ruleErr q = 0:=hu.trans h2
  have ia:=inner_meet ha hm
  have ib:=inner_meet hb ((meetP_comm _ _).trans hm)
  have sm : ∀ s ∈ m.parts,s.length ≤ 250:=meet_each hm z1 z3 (by decide)
  have sx : ∀ s ∈ (carryP r.left r.right m).parts,s.length ≤ 250 + 250:=carry_each ia z2 sm
  have sy : ∀ s ∈ (carryP q.left q.right m).parts,s.length ≤ 250 + 250:=carry_each ib z4 sm
  have h13 : starN m + 1 ≤ 13:=by
   have h1:=List.length_filter_le isStar m.parts
   have h2:=(patErr_iff.1 ia.good).2.2.1
   show (m.parts.filter isStar).length + 1 ≤ 13
   omega
  have hk : 600 ≤ 600 * (14 - (starN m + 1)):=by omega
  refine ⟨(Calm.refl _).alloc _,TwoB.new w4 _ _ _,ia,ib,?_,Nat.lt_succ_self _,h13,.inl ⟨rfl,rfl,rfl⟩,⟨rfl,rfl⟩,⟨fun s h=>by have:=sm s h;omega,fun s h _=>by have:=sm s h;omega⟩,⟨fun s h=>by have:=sx s h;omega,fun s h _=>by have:=sx s h;omega⟩,⟨fun s h=>by have:=sy s h;omega,fun s h _=>by have:=sy s h;omega⟩⟩
  unfold agE
  rw [if_neg (by simpa using ha),if_neg (by simpa using hb),hm]
  simp only
  by_cases h12 : 12 < (carryP r.left r.right m).parts.length ∨ 12 < (carryP q.left q.right m).parts.length
  ·rw [if_pos h12,if_pos h12]
  ·rw [if_neg h12,if_neg h12]
   unfold eqzP
   by_cases hl : (carryP r.left r.right m).parts.length ≠ (carryP q.left q.right m).parts.length
   ·rw [if_pos hl,if_pos hl]
   ·rw [if_neg hl,if_neg hl]
 have HW:=Lib.hid hw1
 have HC:=Lib.hid hc1
 have HBr:=Lib.hid hbr
 have HBq:=Lib.hid hbq
 have HBz:=Lib.hid hbz
 have hsz : w.heap.size + 1 + 1 < w1.heap.size:=hbz.lt
 unfold ruleV
 rw [hnl,hnr,hlr,hrr,hex,hql,hqr,hkl,hkr,hqx]
 clear hw1 hc1 hbr hbq hbz hr hs hq ht z1 z2 z3 z4 hnl hnr hlr hrr hex hql hqr hkl hkr hqx hv hu hal har hbl hbr2
 have HC8 : Hid (∀ W,Calm w1 W → ∀ u0 u1,Calm w ((W.setCell ⟨w.heap.size + 1 + 1,0,none⟩ u0).setCell ⟨w.heap.size + 1 + 1,1,none⟩ u1)):=fun W hW u0 u1=>Below.setCell (p:=⟨w.heap.size + 1 + 1,1,none⟩) (Below.setCell (p:=⟨w.heap.size + 1 + 1,0,none⟩) (HC.out.trans hW) (by show w.heap.size ≤ w.heap.size + 1 + 1;omega) _) (by show w.heap.size ≤ w.heap.size + 1 + 1;omega) _
 go_enter Tryz.func40,Tryz.ntmps40
 have hh:=HBr.out
 have b0:=hh.c0
 have b1:=hh.c1
 have b2:=hh.c2
 have b3:=hh.c3
 have b4:=hh.c4
 clear hh
 go_wp2_with fail
 rw [← HW.out]
 refine (KR.out w1 (Calm.refl _)).mono ?_
 rintro e w2 ⟨rfl,hc2⟩
 clear b0 b1 b2 b3 b4
 have HC2 : Hid (Calm w1 w2):=hc2
 clear hc2
 by_cases hv0 : v = 0
 ·subst hv0
  have hh:=HBq.out.calm HC2.out
  have d0:=hh.c0
  have d1:=hh.c1
  have d2:=hh.c2
  have d3:=hh.c3
  have d4:=hh.c4
  clear hh
  go_wp2_with fail
  refine (KQ.out w2 HC2.out).mono ?_
  rintro e w3 ⟨rfl,hc3⟩
  clear d0 d1 d2 d3 d4
  have HC3 : Hid (Calm w1 w3):=HC2.out.trans hc3
  clear hc3
  by_cases hu0 : u = 0
  ·subst hu0
   have hh:=HBr.out.calm HC3.out
   have b1:=hh.c1
   have b2:=hh.c2
   have hh:=HBq.out.calm HC3.out
   have d1:=hh.c1
   have d2:=hh.c2
   clear hh
   rcases hmm : meetP r.left q.left with _ | m
   ·have HX:=Lib.hid (HX3.out (by trivial) (by trivial) hmm)
    have KM:=Lib.hid (KM0.out (by trivial) (by trivial) hmm w3 HC3.out)
    clear hmm
    go_wp2_with fail
    refine KM.out.mono ?_
    rintro e w4 ⟨rfl,hc4⟩
    have HC4 : Hid (Calm w1 w4):=HC3.out.trans hc4
    clear hc4 b1 b2 d1 d2
    have hz:=HBz.out.calm (HC4.out.alloc (.cells #[.slice none 0 0,.bool false] 40))
    have z0:=hz.c0
    have z1:=hz.c1
    have f0:=hz.fz 0
    have f1:=hz.fz 1
    clear hz
    go_wp2_with fail
    try rw [Exit.noGoto_ret]
    refine bodyPost_ret (v:=.tuple #[.agg #[.slice none 0 0,.bool false],.bool false,.int .i64 0]) ?_ rfl ⟨.inl (by rw [HX.out];exact ⟨rfl,rfl⟩),HC8.out _ (HC4.out.alloc _) _ _⟩
    rw [results_cell_tt rfl]
    go_simp
   ·have hx4:=HX4.out m (by trivial) (by trivial) hmm
    have KM:=Lib.hid (KM1.out m (by trivial) (by trivial) hmm w3 HC3.out)
    clear hmm
    obtain ⟨mn,hmn⟩ : ∃ mn,m.parts.length = mn:=⟨_,rfl⟩
    obtain ⟨mr,hmr⟩ : ∃ mr,m.rest = mr:=⟨_,rfl⟩
    rw [hmn,hmr] at KM
    rw [hmn,hmr] at hx4
    have HX4m:=Lib.hid hx4
    clear hmn hmr hx4
    go_wp2_with fail
    refine KM.out.mono ?_
    rintro e w4 ⟨⟨A2,c2,rfl,hSm⟩,hc4⟩
    clear b1 b2 d1 d2
    obtain ⟨w5,hw5⟩ : ∃ w5,w5 = w4.alloc (.cells #[.slice A2 mn c2,.bool mr] 40):=⟨_,rfl⟩
    obtain ⟨M,hM⟩ : ∃ M,w4.heap.size = M:=⟨_,rfl⟩
    have hR5:=HX4m.out w4 A2 c2 (.inr hSm.a)
    rw [← hw5,hM] at hR5
    have HR5:=Lib.hid hR5
    have HSm4:=Lib.hid hSm
    have HC14 : Hid (Calm w1 w4):=HC3.out.trans hc4
    have hsz1 : w1.heap.size ≤ w3.heap.size ∧ w3.heap.size ≤ w4.heap.size:=⟨HC3.out.size,hc4.size⟩
    have HMs:=Lib.hid hM
    have HW5:=Lib.hid hw5
    have HFin0 : Hid (∀ wq wz p Am cm u0 u1 g,RAg w4 wq M mn mr A2 c2 m r q g p Am cm → Calm wq wz → SmallN ((wz.setCell ⟨w.heap.size + 1 + 1,0,none⟩ u0).setCell ⟨w.heap.size + 1 + 1,1,none⟩ u1) w.heap.size ⟨Am,cm,p⟩):=fun wq wz p Am cm u0 u1 g hR hz=>by
     have hfin : SmallN wz w3.heap.size ⟨Am,cm,p⟩:=by
      rcases hR.hm with ⟨rfl,rfl,rfl⟩ | hnw
      ·exact HSm4.out.calm (hR.calm.trans hz)
      ·exact (smallN_mono hnw (by have:=HMs.out;omega)).calm hz
     exact smallN_mono (smallN_set (smallN_set hfin u0 (by show w.heap.size + 1 + 1 < _;omega)) u1 (by show w.heap.size + 1 + 1 < _;omega)) (by omega)
    clear hSm hc4 hw5 hM hR5 HX4m
    go_wp2_with fail
    rw [← HW5.out,HMs.out]
    go_loopg [] (starN m + 1) (fun g wr=>∃ (p : Pat) (Am : Option Addr) (cm : Nat),Hid (RAg w4 wr M mn mr A2 c2 m r q g p Am cm))
    case atStart=>exact ⟨m,A2,c2,HR5.out⟩
    case round=>
     obtain ⟨p,Am,cm,HR⟩:=hrel
     obtain ⟨wq,rfl⟩ : ∃ wq,wq = wr:=⟨_,rfl⟩
     obtain ⟨g,rfl⟩ : ∃ g,gk = g + 1:=⟨gk - 1,by have:=HR.out.few;omega⟩
     have HC1q : Hid (Calm w1 wq):=HC14.out.trans HR.out.calm
     have HPm : Hid (PatA wq Am cm p):=HR.out.hm.a HSm4.out.a HR.out.calm
     have hg13:=HR.out.room
     have HSzx : Hid (SzP 8000 8000 (carryP r.left r.right p) ∧ SzP 8000 8000 (carryP q.left q.right p)):=⟨⟨fun s h=>by have:=HR.out.sx.each s h;omega,fun s h _=>by have:=HR.out.sx.each s h;omega⟩,⟨fun s h=>by have:=HR.out.sy.each s h;omega,fun s h _=>by have:=HR.out.sy.each s h;omega⟩⟩
     have KN1:=Lib.hid (KNa.out wq p Am cm mn mr HC1q.out HPm.out HR.out.nm.1 HR.out.nm.2 HR.out.ia HSzx.out.1)
     have KN2 : Hid (∀ W,Calm wq W → Calls Tryz.prog 62 #[.agg #[.bool qx,.slice b.AL ql b.cl,.bool kl,.slice b.AR qr b.cr,.bool kr],.agg #[.slice Am mn cm,.bool mr]] W fun e w'=>NarAny (carryP q.left q.right p) w' e ∧ Calm W w'):=fun W hW=>KNb.out W p Am cm mn mr (HC1q.out.trans hW) (HPm.out.calm hW) HR.out.nm.1 HR.out.nm.2 HR.out.ib HSzx.out.2
     have HSame0:=Lib.hid HR.out.same
     obtain ⟨X,hX⟩ : ∃ X,carryP r.left r.right p = X:=⟨_,rfl⟩
     obtain ⟨Y,hY⟩ : ∃ Y,carryP q.left q.right p = Y:=⟨_,rfl⟩
     have HXY0:=Lib.hid (And.intro hX hY)
     rw [hX] at KN1 HSame0
     rw [hY] at KN2 HSame0
     clear hX hY hg13
     have hh:=HBr.out.calm HC1q.out
     have b0:=hh.c0
     have b1:=hh.c1
     have b2:=hh.c2
     have b3:=hh.c3
     have b4:=hh.c4
     clear hh
     have m0:=HR.out.box.c0
     have m1:=HR.out.box.c1
     go_wp2_with fail
     refine KN1.out.mono ?_
     rintro e w6 ⟨⟨AL1,nL1,cL1,rL1,AR1,nR1,cR1,rR1,ok1,er1,rfl,hN1⟩,hc6⟩
     clear b0 b1 b2 b3 b4 m0 m1 KN1
     obtain ⟨w7,hw7⟩ : ∃ w7,w7 = w6.alloc (.cells #[.bool false,.slice AL1 nL1 cL1,.bool rL1,.slice AR1 nR1 cR1,.bool rR1] 52):=⟨_,rfl⟩
     obtain ⟨D1,hD1⟩ : ∃ D1,w6.heap.size = D1:=⟨_,rfl⟩
     have hc67 : Calm w6 w7:=by
      show Below _ _ _
      rw [hw7]
      exact (Calm.refl _).alloc _
     have HC7 : Hid (Calm wq w7):=Calm.trans hc6 hc67
     have HB7 : Hid (FiveB w7 D1 (.bool false) (.slice AL1 nL1 cL1) (.bool rL1) (.slice AR1 nR1 cR1) (.bool rR1)):=by
      show FiveB _ _ _ _ _ _ _
      rw [hw7,← hD1]
      exact FiveB.new w6 _ _ _ _ _ _
     have HN7 : Hid (NarOk X w7 AR1 nR1 cR1 rR1 ok1):=hN1.calm hc67
     have HW7:=Lib.hid (And.intro hw7 hD1)
     have hh:=HBq.out.calm (HC1q.out.trans HC7.out)
     have d0:=hh.c0
     have d1:=hh.c1
     have d2:=hh.c2
     have d3:=hh.c3
     have d4:=hh.c4
     clear hh
     have hbm:=HR.out.box.calm HC7.out
     have m0:=hbm.c0
     have m1:=hbm.c1
     rw [hw7] at d0 d1 d2 d3 d4 m0 m1
     clear hbm hN1 hc6 hc67 hw7 hD1
     go_wp2_with fail
     rw [← HW7.out.1,HW7.out.2]
     refine (KN2.out w7 HC7.out).mono ?_
     rintro e w8 ⟨⟨AL2,nL2,cL2,rL2,AR2,nR2,cR2,rR2,ok2,er2,rfl,hN2⟩,hc8⟩
     clear d0 d1 d2 d3 d4 m0 m1 KN2
     obtain ⟨w9,hw9⟩ : ∃ w9,w9 = w8.alloc (.cells #[.bool false,.slice AL2 nL2 cL2,.bool rL2,.slice AR2 nR2 cR2,.bool rR2] 52):=⟨_,rfl⟩
     obtain ⟨D2,hD2⟩ : ∃ D2,w8.heap.size = D2:=⟨_,rfl⟩
     have hc89 : Calm w8 w9:=by
      show Below _ _ _
      rw [hw9]
      exact (Calm.refl _).alloc _
     have HC79 : Hid (Calm w7 w9):=Calm.trans hc8 hc89
     have HCq9 : Hid (Calm wq w9):=HC7.out.trans HC79.out
     have HC19 : Hid (Calm w1 w9):=HC1q.out.trans HCq9.out
     have HBx:=Lib.hid (HB7.out.calm HC79.out)
     have HBy : Hid (FiveB w9 D2 (.bool false) (.slice AL2 nL2 cL2) (.bool rL2) (.slice AR2 nR2 cR2) (.bool rR2)):=by
      show FiveB _ _ _ _ _ _ _
      rw [hw9,← hD2]
      exact FiveB.new w8 _ _ _ _ _ _
     have hN9:=HN7.out.calm HC79.out
     have hM9 : NarOk Y w9 AR2 nR2 cR2 rR2 ok2:=hN2.calm hc89
     have HW9:=Lib.hid (And.intro hw9 hD2)
     clear hN2 hc8 hc89
     rcases hN9 with ⟨rfl,h12⟩ | ⟨rfl,h12,hx1,hx2,hPX⟩
     ·have HNo : Hid (agE r q = (none,43)):=by
       show _ = _
       rw [HSame0.out,if_pos (.inl h12)]
      have hz:=HBz.out.calm HC19.out
      have z0:=hz.c0
      have z1:=hz.c1
      have f0:=hz.fz 0
      have f1:=hz.fz 1
      clear hz
      rw [hw9] at z0 z1 f0 f1
      have HNm:=Lib.hid hM9
      clear hw9 hD2 h12 hM9
      go_wp2_with fail
      rw [← HW9.out.1]
      try rw [Exit.noGoto_ret]
      refine bodyPost_ret (v:=.tuple #[.agg #[.slice none 0 0,.bool false],.bool false,.int .i64 43]) ?_ rfl ⟨.inl (by rw [HNo.out];exact ⟨rfl,rfl⟩),HC8.out _ HC19.out _ _⟩
      rw [HW9.out.1,results_cell_tt rfl]
      go_simp
     ·rcases hM9 with ⟨rfl,h13⟩ | ⟨rfl,h13,hy1,hy2,hPY⟩
      ·have HNo : Hid (agE r q = (none,43)):=by
        show _ = _
        rw [HSame0.out,if_pos (.inr h13)]
       have hz:=HBz.out.calm HC19.out
       have z0:=hz.c0
       have z1:=hz.c1
       have f0:=hz.fz 0
       have f1:=hz.fz 1
       clear hz
       rw [hw9] at z0 z1 f0 f1
       clear hw9 hD2 h12 h13 hx1 hx2 hPX
       go_wp2_with fail
       rw [← HW9.out.1]
       try rw [Exit.noGoto_ret]
       refine bodyPost_ret (v:=.tuple #[.agg #[.slice none 0 0,.bool false],.bool false,.int .i64 43]) ?_ rfl ⟨.inl (by rw [HNo.out];exact ⟨rfl,rfl⟩),HC8.out _ HC19.out _ _⟩
       rw [HW9.out.1,results_cell_tt rfl]
       go_simp
      ·have HSame : Hid (agE r q = (eqzP (g + 1) p X Y,0)):=by
        show _ = _
        rw [HSame0.out,if_neg (by omega)]
       have x3:=HBx.out.c3
       have y3:=HBy.out.c3
       rw [hw9] at x3 y3
       have HPX:=Lib.hid hPX
       have HPY:=Lib.hid hPY
       by_cases hlen : nR1 = nR2
       ·subst hlen
        have HXY : Hid (X.parts.length = nR1 ∧ Y.parts.length = nR1):=⟨hx1,hy1⟩
        have HLen : Hid (X.parts.length = Y.parts.length):=hx1.trans hy1.symm
        have HSh0 : Hid ((¬ 12 < X.parts.length ∧ ¬ 12 < Y.parts.length) ∧ X.parts.length = Y.parts.length):=⟨⟨h12,h13⟩,hx1.trans hy1.symm⟩
        have tX : Sy.Twin p X:=by rw [← HXY0.out.1];exact HR.out.ia.twin (by rw [HXY0.out.1];omega)
        have tY : Sy.Twin p Y:=by rw [← HXY0.out.2];exact HR.out.ib.twin (by rw [HXY0.out.2];omega)
        have HSh : Hid ((∀ s ∈ X.parts,partOk s = true) ∧ ∀ s ∈ Y.parts,partOk s = true):=⟨fun s h=>allOk_of tX.rp s h,fun s h=>allOk_of tY.rp s h⟩
        have hn12 : nR1 ≤ 12:=by omega
        clear hw9 hD2 h12 h13 hx1 hx2 hy1 hy2 hPX hPY tX tY
        go_wp2_with fail
        rw [← HW9.out.1,HW9.out.2]
        clear x3 y3
        have HCqi:=HCq9
        go_loopg [17,18,19,91] nR1 (fun g2 s17 s18 s19 s91 wy=>∃ (i st : Nat),i + g2 = nR1 ∧ st ≤ i ∧ s91 = .int .i64 i ∧ s17 = .int .i64 st ∧ s18 = .string ⟨#[]⟩ ∧ s19 = .bool false ∧ Hid (DifAt X.parts Y.parts i st) ∧ wy = w9)
        case atStart=>exact ⟨0,0,by omega,Nat.le_refl _,rfl,rfl,rfl,rfl,DifAt.start _ _,rfl⟩
        case round=>
         obtain ⟨i,st,hig,hsti,rfl,rfl,rfl,rfl,HD,hwy⟩:=hrel
         obtain ⟨wi,rfl⟩ : ∃ wi,wi = wr:=⟨_,rfl⟩
         subst hwy
         cases gk with
         |zero=>
          have hz : ¬ ((i : Int) < (nR1 : Int)):=by omega
          have HEq : Hid (agE r q = (some p,0)):=by
           show _ = _
           rw [HSame.out]
           unfold eqzP
           rw [if_neg (by simpa using HLen.out),eqP_same (HD.out.done (by rw [HXY.out.1];omega))]
          have hbm:=HR.out.box.calm HCqi.out
          have m0:=hbm.c0
          have m1:=hbm.c1
          clear hbm
          have hz:=HBz.out.calm HC19.out
          have z0:=hz.c0
          have z1:=hz.c1
          have f0:=hz.fz 0
          have f1:=hz.fz 1
          clear hz
          go_wp2_with fail
          try rw [Exit.noGoto_ret]
          refine bodyPost_ret (v:=.tuple #[.agg #[.slice Am mn cm,.bool mr],.bool true,.int .i64 0]) ?_ rfl ⟨.inr ⟨p,Am,cm,HEq.out,by rw [HR.out.nm.1,HR.out.nm.2],HFin0.out _ _ _ _ _ _ _ _ HR.out HCqi.out⟩,HC8.out _ HC19.out _ _⟩
          rw [results_cell_tt rfl]
          go_simp
         |succ g2=>
          have hz : (i : Int) < (nR1 : Int):=by omega
          obtain ⟨bx,ox,s,hAx,hbx,hs,hsl,cx0⟩:=HPX.out.r.get (k:=i) (by rw [HXY.out.1];omega)
          obtain ⟨by9,oy,t,hAy,hby,ht,htl,cy0⟩:=HPY.out.r.get (k:=i) (by rw [HXY.out.2];omega)
          subst hAx hAy
          have hpos : partOk s = true:=HSh.out.1 s (List.mem_of_getElem? hs)
          have hpot : partOk t = true:=HSh.out.2 t (List.mem_of_getElem? ht)
          have hos:=starOk_iff hpos
          have hot:=starOk_iff hpot
          have HSs:=Lib.hid hs
          have HTs:=Lib.hid ht
          have x3:=HBx.out.c3
          have y3:=HBy.out.c3
          clear hs ht
          by_cases hst' : s = t
          ·subst hst'
           have hnx:=HD.out.go HSs.out HTs.out
           rcases hsx : isStar s with _ | _
           ·rw [hsx] at hnx
            have KS:=fun W=>star_v s false [] W hsl (by rw [hos,hsx]) (by rw [starSuf,hos,hsx];rfl)
            have HN : Hid (DifAt X.parts Y.parts (i + 1) st):=hnx
            clear hnx hsx hpos hpot hos hot
            go_wp2_with (go_at_call 73;refine (KS _).mono ?_;rintro e w8 ⟨rfl,rfl⟩)
            go_roundg g2
            case measure=>omega
            case rel=>exact ⟨i + 1,st,by omega,by omega,by go_num,rfl,rfl,rfl,HN.out,rfl⟩
           ·rw [hsx] at hnx
            have KS:=fun W=>star_v s true s.tail W hsl (by rw [hos,hsx]) (by rw [starSuf,hos,hsx];rfl)
            have HN : Hid (DifAt X.parts Y.parts (i + 1) (st + 1)):=hnx
            clear hnx hsx hpos hpot hos hot
            go_wp2_with (go_at_call 73;refine (KS _).mono ?_;rintro e w8 ⟨rfl,rfl⟩)
            go_roundg g2
            case measure=>omega
            case rel=>exact ⟨i + 1,st + 1,by omega,by omega,by go_num,by go_num,rfl,rfl,HN.out,rfl⟩
          ·have hneL : (s == t) = false:=by simpa using hst'
           have HDf:=Lib.hid (HD.out.hit HSs.out HTs.out hst')
           have hz:=HBz.out.calm HC19.out
           have z0:=hz.c0
           have z1:=hz.c1
           have f0:=hz.fz 0
           have f1:=hz.fz 1
           clear hz
           rcases hs1 : isStar s with _ | _ <;> rcases ht1 : isStar t with _ | _
           ·have KS:=fun W=>star_v s false [] W hsl (by rw [hos,hs1]) (by rw [starSuf,hos,hs1];rfl)
            have KT:=fun W=>star_v t false [] W htl (by rw [hot,ht1]) (by rw [starSuf,hot,ht1];rfl)
            clear hos hot HD
            have HDet0:=Lib.hid (detP_lit hs1 ht1 : detP s t = none)
            have KCp:=cap_a t s wi htl (by omega) hpot
            clear hs1 ht1 hst' hpos hpot
            have HNo : Hid (agE r q = (none,0)):=by
             show _ = _
             rw [HSame.out]
             unfold eqzP
             rw [if_neg (by simpa using HLen.out),eqP_no HDf.out HDet0.out]
            go_wp2_with (first | (go_at_call 73;first | ((with_reducible refine (KS _).mono ?_);rintro e w8 ⟨rfl,rfl⟩) | ((with_reducible refine (KT _).mono ?_);rintro e w8 ⟨rfl,rfl⟩)) | (go_at_call 74;(with_reducible refine KCp.mono ?_);rintro e w8 ⟨rfl,rfl⟩))
            try rw [Exit.noGoto_ret]
            refine bodyPost_ret (v:=.tuple #[.agg #[.slice none 0 0,.bool false],.bool false,.int .i64 0]) ?_ rfl ⟨.inl (by rw [HNo.out];exact ⟨rfl,rfl⟩),HC8.out _ HC19.out _ _⟩
            rw [results_cell_tt rfl]
            go_simp
           ·have KS:=fun W=>star_v s false [] W hsl (by rw [hos,hs1]) (by rw [starSuf,hos,hs1];rfl)
            have KT:=fun W=>star_v t true t.tail W htl (by rw [hot,ht1]) (by rw [starSuf,hot,ht1];rfl)
            clear hos hot HD
            have hdd : detP s t = if capB t s then some (rcapt t s) else none:=(detP_swap s t).trans (rdet_one ht1 hs1 (hpos : partOk s = true))
            have KCp:=cap_a t s wi htl (by omega) hpot
            rcases hcb : capB t s with _ | _
            ·rw [hcb] at hdd KCp
             simp only [Bool.false_eq_true,if_false] at hdd
             have HDet0:=Lib.hid hdd
             clear hcb hdd hst' hpos hpot
             have HNo : Hid (agE r q = (none,0)):=by
              show _ = _
              rw [HSame.out]
              unfold eqzP
              rw [if_neg (by simpa using HLen.out),eqP_no HDf.out HDet0.out]
             go_wp2_with (first | (go_at_call 73;first | ((with_reducible refine (KS _).mono ?_);rintro e w8 ⟨rfl,rfl⟩) | ((with_reducible refine (KT _).mono ?_);rintro e w8 ⟨rfl,rfl⟩)) | (go_at_call 74;(with_reducible refine KCp.mono ?_);rintro e w8 ⟨rfl,rfl⟩))
             try rw [Exit.noGoto_ret]
             refine bodyPost_ret (v:=.tuple #[.agg #[.slice none 0 0,.bool false],.bool false,.int .i64 0]) ?_ rfl ⟨.inl (by rw [HNo.out];exact ⟨rfl,rfl⟩),HC8.out _ HC19.out _ _⟩
             rw [results_cell_tt rfl]
             go_simp
            ·rw [hcb] at hdd KCp
             simp only [if_true] at hdd
             obtain ⟨d,hd9⟩ : ∃ d,rcapt t s = d:=⟨_,rfl⟩
             rw [hd9] at hdd KCp
             have hdet : detP s t = some d:=hdd
             clear hcb hdd hst' hd9 hpos hpot
             have hdl : d.length ≤ 16384:=detP_len hdet hsl htl
             have hst6 : st ≤ 16384:=by omega
             have KFx : Hid (∀ W,Calm wi W → Calls Tryz.prog 75 #[.agg #[.slice Am mn cm,.bool mr],.int .i64 st,.string (bs d)] W fun e w'=>FixEnd (fixR p.parts st d) mn mr W.heap.size e w' ∧ Calm W w'):=fun W hW=>rfix_c p st d Am mn cm mr W ((HPm.out.calm HCqi.out).calm hW).r HR.out.nm.1 HR.out.nm.2 hdl hst6 (fun s hs'=>allOk_of HR.out.ia.good s hs')
             have HDet:=Lib.hid hdet
             have hbm:=HR.out.box.calm HCqi.out
             have m0:=hbm.c0
             have m1:=hbm.c1
             clear hdet hdl hst6 hbm z0 z1 f0 f1
             go_wp2_with (first | (go_at_call 73;first | ((with_reducible refine (KS _).mono ?_);rintro e w8 ⟨rfl,rfl⟩) | ((with_reducible refine (KT _).mono ?_);rintro e w8 ⟨rfl,rfl⟩)) | (go_at_call 74;(with_reducible refine KCp.mono ?_);rintro e w8 ⟨rfl,rfl⟩))
             clear m0 m1
             (with_reducible refine (KFx.out _ (Calm.refl _)).mono ?_)
             rintro e w10 ⟨⟨A5,c5,rfl,hn5⟩,hc10⟩
             have HNx:=Lib.hid (HR.out.next HXY0.out.1 HXY0.out.2 HMs.out HSh0.out HDf.out HDet.out (HCqi.out.trans hc10) hn5 HCqi.out.size)
             have hbm:=HR.out.box.calm (HCqi.out.trans hc10)
             have m0:=hbm.c0
             have m1:=hbm.c1
             have fm0:=hbm.fz 0
             have fm1:=hbm.fz 1
             clear hbm hn5 hc10
             go_wp2_with fail
             go_roundg g
             case measure=>omega
             case rel=>exact ⟨_,A5,c5,HNx.out⟩
           ·have KS:=fun W=>star_v s true s.tail W hsl (by rw [hos,hs1]) (by rw [starSuf,hos,hs1];rfl)
            have KT:=fun W=>star_v t false [] W htl (by rw [hot,ht1]) (by rw [starSuf,hot,ht1];rfl)
            clear hos hot HD
            have hdd : detP s t = if capB s t then some (rcapt s t) else none:=rdet_one hs1 ht1 (hpot : partOk t = true)
            have KCp:=cap_a s t wi hsl (by omega) hpos
            rcases hcb : capB s t with _ | _
            ·rw [hcb] at hdd KCp
             simp only [Bool.false_eq_true,if_false] at hdd
             have HDet0:=Lib.hid hdd
             clear hcb hdd hst' hpos hpot
             have HNo : Hid (agE r q = (none,0)):=by
              show _ = _
              rw [HSame.out]
              unfold eqzP
              rw [if_neg (by simpa using HLen.out),eqP_no HDf.out HDet0.out]
             go_wp2_with (first | (go_at_call 73;first | ((with_reducible refine (KS _).mono ?_);rintro e w8 ⟨rfl,rfl⟩) | ((with_reducible refine (KT _).mono ?_);rintro e w8 ⟨rfl,rfl⟩)) | (go_at_call 74;(with_reducible refine KCp.mono ?_);rintro e w8 ⟨rfl,rfl⟩))
             try rw [Exit.noGoto_ret]
             refine bodyPost_ret (v:=.tuple #[.agg #[.slice none 0 0,.bool false],.bool false,.int .i64 0]) ?_ rfl ⟨.inl (by rw [HNo.out];exact ⟨rfl,rfl⟩),HC8.out _ HC19.out _ _⟩
             rw [results_cell_tt rfl]
             go_simp
            ·rw [hcb] at hdd KCp
             simp only [if_true] at hdd
             obtain ⟨d,hd9⟩ : ∃ d,rcapt s t = d:=⟨_,rfl⟩
             rw [hd9] at hdd KCp
             have hdet : detP s t = some d:=hdd
             clear hcb hdd hst' hd9 hpos hpot
             have hdl : d.length ≤ 16384:=detP_len hdet hsl htl
             have hst6 : st ≤ 16384:=by omega
             have KFx : Hid (∀ W,Calm wi W → Calls Tryz.prog 75 #[.agg #[.slice Am mn cm,.bool mr],.int .i64 st,.string (bs d)] W fun e w'=>FixEnd (fixR p.parts st d) mn mr W.heap.size e w' ∧ Calm W w'):=fun W hW=>rfix_c p st d Am mn cm mr W ((HPm.out.calm HCqi.out).calm hW).r HR.out.nm.1 HR.out.nm.2 hdl hst6 (fun s hs'=>allOk_of HR.out.ia.good s hs')
             have HDet:=Lib.hid hdet
             have hbm:=HR.out.box.calm HCqi.out
             have m0:=hbm.c0
             have m1:=hbm.c1
             clear hdet hdl hst6 hbm z0 z1 f0 f1
             go_wp2_with (first | (go_at_call 73;first | ((with_reducible refine (KS _).mono ?_);rintro e w8 ⟨rfl,rfl⟩) | ((with_reducible refine (KT _).mono ?_);rintro e w8 ⟨rfl,rfl⟩)) | (go_at_call 74;(with_reducible refine KCp.mono ?_);rintro e w8 ⟨rfl,rfl⟩))
             clear m0 m1
             (with_reducible refine (KFx.out _ (Calm.refl _)).mono ?_)
             rintro e w10 ⟨⟨A5,c5,rfl,hn5⟩,hc10⟩
             have HNx:=Lib.hid (HR.out.next HXY0.out.1 HXY0.out.2 HMs.out HSh0.out HDf.out HDet.out (HCqi.out.trans hc10) hn5 HCqi.out.size)
             have hbm:=HR.out.box.calm (HCqi.out.trans hc10)
             have m0:=hbm.c0
             have m1:=hbm.c1
             have fm0:=hbm.fz 0
             have fm1:=hbm.fz 1
             clear hbm hn5 hc10
             go_wp2_with fail
             go_roundg g
             case measure=>omega
             case rel=>exact ⟨_,A5,c5,HNx.out⟩
           ·have KS:=fun W=>star_v s true s.tail W hsl (by rw [hos,hs1]) (by rw [starSuf,hos,hs1];rfl)
            have KT:=fun W=>star_v t true t.tail W htl (by rw [hot,ht1]) (by rw [starSuf,hot,ht1];rfl)
            clear hos hot HD
            have HDet0:=Lib.hid (detP_both hs1 ht1 : detP s t = none)
            have KCp:=cap_a s t wi hsl (by omega) hpos
            clear hs1 ht1 hst' hpos hpot
            have HNo : Hid (agE r q = (none,0)):=by
             show _ = _
             rw [HSame.out]
             unfold eqzP
             rw [if_neg (by simpa using HLen.out),eqP_no HDf.out HDet0.out]
            go_wp2_with (first | (go_at_call 73;first | ((with_reducible refine (KS _).mono ?_);rintro e w8 ⟨rfl,rfl⟩) | ((with_reducible refine (KT _).mono ?_);rintro e w8 ⟨rfl,rfl⟩)) | (go_at_call 74;(with_reducible refine KCp.mono ?_);rintro e w8 ⟨rfl,rfl⟩))
            try rw [Exit.noGoto_ret]
            refine bodyPost_ret (v:=.tuple #[.agg #[.slice none 0 0,.bool false],.bool false,.int .i64 0]) ?_ rfl ⟨.inl (by rw [HNo.out];exact ⟨rfl,rfl⟩),HC8.out _ HC19.out _ _⟩
            rw [results_cell_tt rfl]
            go_simp
       ·have HNo : Hid (agE r q = (none,0)):=by
         show _ = _
         rw [HSame.out]
         unfold eqzP
         rw [if_pos (by rw [hx1,hy1];exact hlen)]
        have hne : ((nR1 : Int) == (nR2 : Int)) = false:=by
         rw [beq_eq_false_iff_ne]
         omega
        have hz:=HBz.out.calm HC19.out
        have z0:=hz.c0
        have z1:=hz.c1
        have f0:=hz.fz 0
        have f1:=hz.fz 1
        clear hz
        rw [hw9] at z0 z1 f0 f1
        clear hw9 hD2 h12 h13 hx1 hx2 hy1 hy2 hPX hPY
        go_wp2_with fail
        rw [← HW9.out.1]
        try rw [Exit.noGoto_ret]
        refine bodyPost_ret (v:=.tuple #[.agg #[.slice none 0 0,.bool false],.bool false,.int .i64 0]) ?_ rfl ⟨.inl (by rw [HNo.out];exact ⟨rfl,rfl⟩),HC8.out _ HC19.out _ _⟩
        rw [HW9.out.1,results_cell_tt rfl]
        go_simp
  ·have HX:=Lib.hid (HX2.out (by trivial) hu0)
   have hv1 : (u == 0) = false:=by rw [beq_eq_false_iff_ne];exact hu0
   have hv2 : (u != 0) = true:=by simpa using hu0
   have hz:=HBz.out.calm HC3.out
   have z0:=hz.c0
   have z1:=hz.c1
   have f0:=hz.fz 0
   have f1:=hz.fz 1
   clear hz
   go_wp2_with fail
   try rw [Exit.noGoto_ret]
   refine bodyPost_ret (v:=.tuple #[.agg #[.slice none 0 0,.bool false],.bool false,.int .i64 u]) ?_ rfl ⟨.inl (by rw [HX.out];exact ⟨rfl,rfl⟩),HC8.out _ HC3.out _ _⟩
   rw [results_cell_tt rfl]
   go_simp
 ·have HX:=Lib.hid (HX1.out hv0)
  have hv1 : (v == 0) = false:=by rw [beq_eq_false_iff_ne];exact hv0
  have hv2 : (v != 0) = true:=by simpa using hv0
  have hz:=HBz.out.calm HC2.out
  have z0:=hz.c0
  have z1:=hz.c1
  have f0:=hz.fz 0
  have f1:=hz.fz 1
  clear hz
  go_wp2_with fail
  try rw [Exit.noGoto_ret]
  refine bodyPost_ret (v:=.tuple #[.agg #[.slice none 0 0,.bool false],.bool false,.int .i64 v]) ?_ rfl ⟨.inl (by rw [HX.out];exact ⟨rfl,rfl⟩),HC8.out _ HC2.out _ _⟩
  rw [results_cell_tt rfl]
  go_simp
end Go.Proofs.YtnlnclefedohkaaGreatDoor
