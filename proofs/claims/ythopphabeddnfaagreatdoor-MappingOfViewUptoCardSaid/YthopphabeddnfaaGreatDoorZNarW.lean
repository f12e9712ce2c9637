/- Walk: rule.NarrowLeft. -/
import Derived.Test.YthopphabeddnfaaGreatDoorZCarryW
import Derived.Test.YthopphabeddnfaaGreatDoorZEntM
import Derived.Test.YthopphabeddnfaaGreatDoorZKinds
import Derived.Test.YthopphabeddnfaaGreatDoorZMeetP
set_option linter.unusedVariables false
set_option linter.unusedSimpArgs false
namespace Go.Proofs.YthopphabeddnfaaGreatDoor
open Go Go.RowKit Sy
def NarEnd (x : Option Rule × Int) (B : Nat) (e : Ending) (w' : World) : Prop:=
 (x.1 = none ∧ e = .returned (.tuple #[.agg #[.bool false,.slice none 0 0,.bool false,.slice none 0 0,.bool false],.bool false,.int .i64 x.2])) ∨
 (∃ n a,x = (some n,0) ∧ e = .returned (.tuple #[ruleV a n,.bool true,.int .i64 0]) ∧ RuleN w' B a n)
theorem results_cell_tt {fn : Func} {p q r : Tmp} {ty : TypeId} (h : fn.results = #[.cell p ty,.tmp q,.tmp r]) (tmps : Array Value) (P : Program) (w : World) :
  (results fn tmps).run P w = ((asAddr (tmps.getD p undef)).run P w).andThen fun a w₁=>((loadVar ty a).run P w₁).andThen fun v w₂=>.ok (.tuple #[v,tmps.getD q undef,tmps.getD r undef]) w₂:=by
 simp only [results,h]
 simp [Sem.run_bind,Result.andThen]
abbrev set5 (w : World) (b : Nat) (u0 u1 u2 u3 u4 : Value) : World:=((((w.setCell ⟨b,0,none⟩ u0).setCell ⟨b,1,none⟩ u1).setCell ⟨b,2,none⟩ u2).setCell ⟨b,3,none⟩ u3).setCell ⟨b,4,none⟩ u4
theorem NewS.set5 {w : World} {B b c : Nat} {A : Option Addr} {ls : List Str} (h : NewS w B A c ls) (hb : b < B) (u0 u1 u2 u3 u4 : Value) : NewS (set5 w b u0 u1 u2 u3 u4) B A c ls:=
 ((((h.set (p:=⟨b,0,none⟩) u0 hb).set (p:=⟨b,1,none⟩) u1 hb).set (p:=⟨b,2,none⟩) u2 hb).set (p:=⟨b,3,none⟩) u3 hb).set (p:=⟨b,4,none⟩) u4 hb
theorem calm5 {w0 w : World} {b : Nat} (h : Calm w0 w) (hb : w0.heap.size ≤ b) (u0 u1 u2 u3 u4 : Value) : Calm w0 (set5 w b u0 u1 u2 u3 u4):=
 Below.setCell (p:=⟨b,4,none⟩) (Below.setCell (p:=⟨b,3,none⟩) (Below.setCell (p:=⟨b,2,none⟩) (Below.setCell (p:=⟨b,1,none⟩) (Below.setCell (p:=⟨b,0,none⟩) h hb _) hb _) hb _) hb _) hb _
structure FiveB (w : World) (B : Nat) (v0 v1 v2 v3 v4 : Value) : Prop where
 lt : B < w.heap.size
 c0 : w.cell? ⟨B,0,none⟩ = some v0
 c1 : w.cell? ⟨B,1,none⟩ = some v1
 c2 : w.cell? ⟨B,2,none⟩ = some v2
 c3 : w.cell? ⟨B,3,none⟩ = some v3
 c4 : w.cell? ⟨B,4,none⟩ = some v4
 fz : ∀ o,w.frozen? ⟨B,o,none⟩ = false
theorem FiveB.calm {w w' : World} {B : Nat} {v0 v1 v2 v3 v4 : Value} (h : FiveB w B v0 v1 v2 v3 v4) (hc : Calm w w') : FiveB w' B v0 v1 v2 v3 v4:=
 ⟨Nat.lt_of_lt_of_le h.lt hc.size,hc.at_ h.c0 h.lt,hc.at_ h.c1 h.lt,hc.at_ h.c2 h.lt,hc.at_ h.c3 h.lt,hc.at_ h.c4 h.lt,fun o=>(hc.frozen (p:=⟨B,o,none⟩) h.lt).trans (h.fz o)⟩
theorem FiveB.new (w : World) (v0 v1 v2 v3 v4 : Value) (T : TypeId) : FiveB (w.alloc (.cells #[v0,v1,v2,v3,v4] T)) w.heap.size v0 v1 v2 v3 v4:=
 ⟨by simp,by simp [go_sem],by simp [go_sem],by simp [go_sem],by simp [go_sem],by simp [go_sem],fun o=>by simp [go_sem]⟩
structure TwoB (w : World) (B : Nat) (v0 v1 : Value) : Prop where
 lt : B < w.heap.size
 c0 : w.cell? ⟨B,0,none⟩ = some v0
 c1 : w.cell? ⟨B,1,none⟩ = some v1
 fz : ∀ o,w.frozen? ⟨B,o,none⟩ = false
theorem TwoB.calm {w w' : World} {B : Nat} {v0 v1 : Value} (h : TwoB w B v0 v1) (hc : Calm w w') : TwoB w' B v0 v1:=
 ⟨Nat.lt_of_lt_of_le h.lt hc.size,hc.at_ h.c0 h.lt,hc.at_ h.c1 h.lt,fun o=>(hc.frozen (p:=⟨B,o,none⟩) h.lt).trans (h.fz o)⟩
theorem TwoB.new (w : World) (v0 v1 : Value) (T : TypeId) : TwoB (w.alloc (.cells #[v0,v1] T)) w.heap.size v0 v1:=
 ⟨by simp,by simp [go_sem],by simp [go_sem],fun o=>by simp [go_sem]⟩
theorem meet_each {p q m : Pat} {L : Nat} (hm : meetP p q = some m) (hp : ∀ x ∈ p.parts,x.length ≤ L) (hq : ∀ x ∈ q.parts,x.length ≤ L) (hL : 1 ≤ L) : ∀ x ∈ m.parts,x.length ≤ L:=fun x hx=>by
 obtain ⟨_,_,hm,_⟩:=meetP_some hm
 obtain ⟨rfl,_,_⟩:=meetL_some hm
 obtain ⟨j,hj,rfl⟩:=List.mem_map.1 hx
 have hat : ∀ (r : Pat),(∀ l ∈ r.parts,l.length ≤ L) → (pAt r j).length ≤ L:=fun r hr=>by
  by_cases hjr : j < r.parts.length
  ·exact hr _ (List.mem_of_getElem? (pAt_get hjr))
  ·rw [pAt_out (by omega)]
   exact hL
 rcases mPart_or (pAt p j) (pAt q j) with e | e <;> rw [e]
 ·exact hat p hp
 ·exact hat q hq

set_option maxHeartbeats 16000000 in
theorem nleft_c (r : Rule) (p : Pat) (a : Pl) (n pc : Nat) (re : Bool) (A : Option Addr) (w : World) (hr : RuleU w a r) (hs : SmallR r) (hp : PatA w A pc p) (hn : p.parts.length = n) (hre : p.rest = re) :
  Calls Tryz.prog 35 #[ruleV a r,.agg #[.slice A n pc,.bool re]] w fun e w'=>NarEnd (narL r p) w.heap.size e w' ∧ Calm w w':=by
 obtain ⟨nl,hnl⟩ : ∃ nl,r.left.parts.length = nl:=⟨_,rfl⟩
 obtain ⟨nr,hnr⟩ : ∃ nr,r.right.parts.length = nr:=⟨_,rfl⟩
 obtain ⟨lr,hlr⟩ : ∃ lr,r.left.rest = lr:=⟨_,rfl⟩
 obtain ⟨rr,hrr⟩ : ∃ rr,r.right.rest = rr:=⟨_,rfl⟩
 obtain ⟨ex,hex⟩ : ∃ ex,r.excl = ex:=⟨_,rfl⟩
 obtain ⟨w1,hw1⟩ : ∃ w1,w1 = ((w.alloc (.cells #[.bool ex,.slice a.AL nl a.cl,.bool lr,.slice a.AR nr a.cr,.bool rr] 44)).alloc (.cells #[.slice A n pc,.bool re] 37)).alloc (.cells #[.bool false,.slice none 0 0,.bool false,.slice none 0 0,.bool false] 44):=⟨_,rfl⟩
 have hc1 : Calm w w1:=by rw [hw1];exact (((Calm.refl w).alloc _).alloc _).alloc _
 have hbr : FiveB w1 w.heap.size (.bool ex) (.slice a.AL nl a.cl) (.bool lr) (.slice a.AR nr a.cr) (.bool rr):=by
  rw [hw1]
  exact (FiveB.new w _ _ _ _ _ _).calm (((Calm.refl _).alloc _).alloc _)
 have hbp : TwoB w1 (w.heap.size + 1) (.slice A n pc) (.bool re):=by
  rw [hw1]
  have:=(TwoB.new (w.alloc (.cells #[.bool ex,.slice a.AL nl a.cl,.bool lr,.slice a.AR nr a.cr,.bool rr] 44)) (.slice A n pc) (.bool re) 37).calm ((Calm.refl _).alloc (.cells #[.bool false,.slice none 0 0,.bool false,.slice none 0 0,.bool false] 44))
  simpa using this
 have hbz : FiveB w1 (w.heap.size + 1 + 1) (.bool false) (.slice none 0 0) (.bool false) (.slice none 0 0) (.bool false):=by
  rw [hw1]
  have:=FiveB.new ((w.alloc (.cells #[.bool ex,.slice a.AL nl a.cl,.bool lr,.slice a.AR nr a.cr,.bool rr] 44)).alloc (.cells #[.slice A n pc,.bool re] 37)) (.bool false) (.slice none 0 0) (.bool false) (.slice none 0 0) (.bool false) 44
  simpa using this
 obtain ⟨v,hv⟩ : ∃ v,ruleErr r = v:=⟨_,rfl⟩
 obtain ⟨u,hu⟩ : ∃ u,patErr p = u:=⟨_,rfl⟩
 have KR : Hid (∀ W,Calm w1 W → Calls Tryz.prog 34 #[.agg #[.bool ex,.slice a.AL nl a.cl,.bool lr,.slice a.AR nr a.cr,.bool rr]] W fun e w'=>e = .returned (.int .i64 v) ∧ Calm W w'):=fun W hW=>by
  have:=rule_c r a W ((hr.calm hc1).calm hW)
  unfold ruleV at this
  rw [hnl,hnr,hlr,hrr,hex,hv] at this
  exact this
 have KP : Hid (∀ W,Calm w1 W → Calls Tryz.prog 60 #[.agg #[.slice A n pc,.bool re]] W fun e w'=>e = .returned (.int .i64 u) ∧ Calm W w'):=fun W hW=>by
  have:=pcheckG_c p A pc W ((hp.calm hc1).calm hW).r.toG hp.room hp.cap
  rw [hn,hre,hu] at this
  exact this
 have hal : PatA w a.AL a.cl r.left:=⟨hr.left hs,hr.lroom,hr.lcap⟩
 have har : PatA w a.AR a.cr r.right:=⟨hr.right hs,hr.rroom,hr.rcap⟩
 have KM1 : Hid (∀ m,v = 0 → u = 0 → meetP r.left p = some m → ∀ W,Calm w1 W → Calls Tryz.prog 36 #[.agg #[.slice a.AL nl a.cl,.bool lr],.agg #[.slice A n pc,.bool re]] W fun e w'=>(∃ A2 c2,e = .returned (.tuple #[.agg #[.slice A2 m.parts.length c2,.bool m.rest],.bool true]) ∧ SmallN w' W.heap.size ⟨A2,c2,m⟩) ∧ Calm W w'):=fun m hv0 hu0 hm W hW=>by
  have:=meet_yes r.left p m a.AL A a.cl pc W ((hal.calm hc1).calm hW) ((hp.calm hc1).calm hW) (ruleErr_twin.1 (hv.trans hv0)).lp (hu.trans hu0) hm
  rw [hnl,hlr,hn,hre] at this
  exact this
 have KM0 : Hid (v = 0 → u = 0 → meetP r.left p = none → ∀ W,Calm w1 W → Calls Tryz.prog 36 #[.agg #[.slice a.AL nl a.cl,.bool lr],.agg #[.slice A n pc,.bool re]] W fun e w'=>e = .returned (.tuple #[.agg #[.slice none 0 0,.bool false],.bool false]) ∧ Calm W w'):=fun hv0 hu0 hm W hW=>by
  have:=meet_no r.left p a.AL A a.cl pc W ((hal.calm hc1).calm hW) ((hp.calm hc1).calm hW) (ruleErr_twin.1 (hv.trans hv0)).lp (hu.trans hu0) hm
  rw [hnl,hlr,hn,hre] at this
  exact this
 have KC : Hid (∀ m,v = 0 → meetP r.left p = some m → ∀ W A2 c2,Calm w1 W → PatA W A2 c2 m → Calls Tryz.prog 61 #[.agg #[.slice a.AL nl a.cl,.bool lr],.agg #[.slice A2 m.parts.length c2,.bool m.rest],.agg #[.slice a.AR nr a.cr,.bool rr]] W fun e w'=>CarryEnd (carryP r.left r.right m) W.heap.size e w' ∧ Calm W w'):=fun m hv0 hm W A2 c2 hW hPm=>
  carry_c r.left m r.right nl m.parts.length nr a.cl c2 a.cr lr m.rest rr a.AL A2 a.AR W (inner_meet (hv.trans hv0) hm) ((hal.calm hc1).calm hW) hPm ((har.calm hc1).calm hW) hnl rfl hnr hlr rfl hrr
 have HX1 : Hid (v ≠ 0 → narL r p = (none,v)):=fun h=>by
  unfold narL
  rw [hv,if_pos h]
 have HX2 : Hid (v = 0 → u ≠ 0 → narL r p = (none,u)):=fun h h2=>by
  unfold narL
  rw [hv,if_neg (by simpa using h),hu,if_pos h2]
 have HX3 : Hid (v = 0 → u = 0 → meetP r.left p = none → narL r p = (none,0)):=fun h h2 hm=>by
  unfold narL
  rw [hv,if_neg (by simpa using h),hu,if_neg (by simpa using h2),hm]
 have HX4 : Hid (∀ m,v = 0 → u = 0 → meetP r.left p = some m → narL r p = if 12 < (carryP r.left r.right m).parts.length then (none,43) else (some ⟨false,m,carryP r.left r.right m⟩,0)):=fun m h h2 hm=>by
  unfold narL
  rw [hv,if_neg (by simpa using h),hu,if_neg (by simpa using h2),hm]
 have HW:=Lib.hid hw1
 have HC:=Lib.hid hc1
 have HBr:=Lib.hid hbr
 have HBp:=Lib.hid hbp
 have HBz:=Lib.hid hbz
 have hsz : w.heap.size + 1 + 1 < w1.heap.size:=hbz.lt
 unfold ruleV
 rw [hnl,hnr,hlr,hrr,hex]
 clear hw1 hc1 hbr hbp hbz hr hs hp hn hre hnl hnr hlr hrr hex hv hu hal har
 have HC8 : Hid (∀ W,Calm w1 W → ∀ u0 u1 u2 u3 u4,Calm w (set5 W (w.heap.size + 1 + 1) u0 u1 u2 u3 u4)):=fun W hW u0 u1 u2 u3 u4=>calm5 (HC.out.trans hW) (by omega) _ _ _ _ _
 go_enter Tryz.func35,Tryz.ntmps35
 have b:=HBr.out
 have b0:=b.c0
 have b1:=b.c1
 have b2:=b.c2
 have b3:=b.c3
 have b4:=b.c4
 clear b
 go_wp2_with fail
 rw [← HW.out]
 refine (KR.out w1 (Calm.refl _)).mono ?_
 rintro e w2 ⟨rfl,hc2⟩
 clear b0 b1 b2 b3 b4
 have HC2:=Lib.hid hc2
 by_cases hv0 : v = 0
 ·subst hv0
  have p0:=(HBp.out.calm hc2).c0
  have p1:=(HBp.out.calm hc2).c1
  clear hc2
  go_wp2_with fail
  refine (KP.out w2 HC2.out).mono ?_
  rintro e w3 ⟨rfl,hc3⟩
  have HC3 : Hid (Calm w1 w3):=HC2.out.trans hc3
  clear p0 p1 hc3
  by_cases hu0 : u = 0
  ·subst hu0
   have b:=HBr.out.calm HC3.out
   have b1:=b.c1
   have b2:=b.c2
   have p0:=(HBp.out.calm HC3.out).c0
   have p1:=(HBp.out.calm HC3.out).c1
   clear b
   rcases hmm : meetP r.left p with _ | m
   ·have HX:=Lib.hid (HX3.out (by trivial) (by trivial) hmm)
    have KM:=Lib.hid (KM0.out (by trivial) (by trivial) hmm w3 HC3.out)
    clear hmm
    go_wp2_with fail
    refine KM.out.mono ?_
    rintro e w4 ⟨rfl,hc4⟩
    have hz:=HBz.out.calm ((HC3.out.trans hc4).alloc (.cells #[.slice none 0 0,.bool false] 37))
    have z0:=hz.c0
    have z1:=hz.c1
    have z2:=hz.c2
    have z3:=hz.c3
    have z4:=hz.c4
    have f0:=hz.fz 0
    have f1:=hz.fz 1
    have f2:=hz.fz 2
    have f3:=hz.fz 3
    have f4:=hz.fz 4
    have HC4 : Hid (Calm w1 w4):=HC3.out.trans hc4
    clear hz hc4 b1 b2 p0 p1
    go_wp2_with fail
    refine bodyPost_ret (v:=.tuple #[.agg #[.bool false,.slice none 0 0,.bool false,.slice none 0 0,.bool false],.bool false,.int .i64 0]) ?_ rfl ⟨.inl (by rw [HX.out];exact ⟨rfl,rfl⟩),HC8.out _ (HC4.out.alloc _) _ _ _ _ _⟩
    rw [results_cell_tt rfl]
    go_simp
   ·have hx:=HX4.out m (by trivial) (by trivial) hmm
    have KM:=Lib.hid (KM1.out m (by trivial) (by trivial) hmm w3 HC3.out)
    have KCm:=Lib.hid (KC.out m (by trivial) hmm)
    clear hmm
    obtain ⟨cr,hcr⟩ : ∃ cr,carryP r.left r.right m = cr:=⟨_,rfl⟩
    rw [hcr] at hx KCm
    obtain ⟨mn,hmn⟩ : ∃ mn,m.parts.length = mn:=⟨_,rfl⟩
    obtain ⟨mr,hmr⟩ : ∃ mr,m.rest = mr:=⟨_,rfl⟩
    obtain ⟨cn,hcn⟩ : ∃ cn,cr.parts.length = cn:=⟨_,rfl⟩
    obtain ⟨ct,hct⟩ : ∃ ct,cr.rest = ct:=⟨_,rfl⟩
    rw [hmn,hmr] at KM KCm
    have HN:=Lib.hid (And.intro hmn (And.intro hmr (And.intro hcn hct)))
    rw [hcn] at hx
    have HX:=Lib.hid hx
    clear hx hcr hmn hmr hcn hct
    go_wp2_with fail
    refine KM.out.mono ?_
    rintro e w4 ⟨⟨A2,c2,rfl,hSm⟩,hc4⟩
    clear b1 b2 p0 p1
    have HC5 : Hid (Calm w1 (w4.alloc (.cells #[.slice A2 mn c2,.bool mr] 37))):=(HC3.out.trans hc4).alloc _
    have hm:=TwoB.new w4 (.slice A2 mn c2) (.bool mr) 37
    have HSm : Hid (SmallN (w4.alloc (.cells #[.slice A2 mn c2,.bool mr] 37)) w3.heap.size ⟨A2,c2,m⟩):=hSm.calm ((Calm.refl _).alloc _)
    have hsz3 : w1.heap.size ≤ w3.heap.size:=HC3.out.size
    have b:=HBr.out.calm HC5.out
    have b1:=b.c1
    have b2:=b.c2
    have b3:=b.c3
    have b4:=b.c4
    have m0:=hm.c0
    have m1:=hm.c1
    have HMb:=Lib.hid hm
    clear b hm hSm hc4
    go_wp2_with fail
    obtain ⟨w5,hw5⟩ : ∃ w5,w5 = w4.alloc (.cells #[.slice A2 mn c2,.bool mr] 37):=⟨_,rfl⟩
    rw [← hw5] at HC5 HMb HSm ⊢
    obtain ⟨M,hM⟩ : ∃ M,w4.heap.size = M:=⟨_,rfl⟩
    rw [hM] at HMb
    simp only [hM]
    clear hw5 hM b1 b2 b3 b4 m0 m1
    refine (KCm.out w5 A2 c2 HC5.out HSm.out.a).mono ?_
    rintro e w6 ⟨hE,hc6⟩
    have HC6 : Hid (Calm w5 w6):=hc6
    clear hc6
    rcases hE with ⟨h12,rfl⟩ | ⟨h12,A3,c3,rfl,hN3⟩
    ·rw [HN.out.2.2.1] at h12
     have HX2' : Hid (narL r p = (none,43)):=by
      show _ = _
      rw [HX.out,if_pos h12]
     have hz:=HBz.out.calm ((HC5.out.trans HC6.out).alloc (.cells #[.slice none 0 0,.bool false] 37))
     have z0:=hz.c0
     have z1:=hz.c1
     have z2:=hz.c2
     have z3:=hz.c3
     have z4:=hz.c4
     have f0:=hz.fz 0
     have f1:=hz.fz 1
     have f2:=hz.fz 2
     have f3:=hz.fz 3
     have f4:=hz.fz 4
     clear hz h12
     go_wp2_with fail
     refine bodyPost_ret (v:=.tuple #[.agg #[.bool false,.slice none 0 0,.bool false,.slice none 0 0,.bool false],.bool false,.int .i64 43]) ?_ rfl ⟨.inl (by rw [HX2'.out];exact ⟨rfl,rfl⟩),HC8.out _ ((HC5.out.trans HC6.out).alloc _) _ _ _ _ _⟩
     rw [results_cell_tt rfl]
     go_simp
    ·rw [HN.out.2.2.1] at h12
     have HX2' : Hid (narL r p = (some ⟨false,m,cr⟩,0)):=by
      show _ = _
      rw [HX.out,if_neg (by omega)]
     rw [HN.out.2.2.1,HN.out.2.2.2]
     have hsz5 : w1.heap.size ≤ w5.heap.size:=HC5.out.size
     have HRu : Hid (∀ u0 u1 u2 u3 u4,RuleN (set5 (w6.alloc (.cells #[.slice A3 cn c3,.bool ct] 37)) (w.heap.size + 1 + 1) u0 u1 u2 u3 u4) w.heap.size ⟨A2,c2,A3,c3⟩ ⟨false,m,cr⟩):=fun u0 u1 u2 u3 u4=>
      ⟨(((HSm.out.calm (HC6.out.alloc _)).new.mono (show w1.heap.size ≤ _ from hsz3)).set5 hsz _ _ _ _ _).mono (by omega),(((hN3.calm ((Calm.refl _).alloc _)).mono (show w1.heap.size ≤ _ from hsz5)).set5 hsz _ _ _ _ _).mono (by omega)⟩
     have hm:=HMb.out.calm (HC6.out.alloc (.cells #[.slice A3 cn c3,.bool ct] 37))
     have m0:=hm.c0
     have m1:=hm.c1
     have hn:=TwoB.new w6 (.slice A3 cn c3) (.bool ct) 37
     have n0:=hn.c0
     have n1:=hn.c1
     have hz:=HBz.out.calm ((HC5.out.trans HC6.out).alloc (.cells #[.slice A3 cn c3,.bool ct] 37))
     have z0:=hz.c0
     have z1:=hz.c1
     have z2:=hz.c2
     have z3:=hz.c3
     have z4:=hz.c4
     have f0:=hz.fz 0
     have f1:=hz.fz 1
     have f2:=hz.fz 2
     have f3:=hz.fz 3
     have f4:=hz.fz 4
     clear hz h12 hm hn hN3
     go_wp2_with fail
     refine bodyPost_ret (v:=.tuple #[.agg #[.bool false,.slice A2 mn c2,.bool mr,.slice A3 cn c3,.bool ct],.bool true,.int .i64 0]) ?_ rfl ⟨.inr ⟨⟨false,m,cr⟩,⟨A2,c2,A3,c3⟩,HX2'.out,by unfold ruleV;rw [HN.out.1,HN.out.2.1,HN.out.2.2.1,HN.out.2.2.2],HRu.out _ _ _ _ _⟩,HC8.out _ ((HC5.out.trans HC6.out).alloc _) _ _ _ _ _⟩
     rw [results_cell_tt rfl]
     go_simp
  ·have HX:=Lib.hid (HX2.out (by trivial) hu0)
   have hu1 : (u == 0) = false:=by rw [beq_eq_false_iff_ne];exact hu0
   have hz:=HBz.out.calm HC3.out
   have z0:=hz.c0
   have z1:=hz.c1
   have z2:=hz.c2
   have z3:=hz.c3
   have z4:=hz.c4
   have f0:=hz.fz 0
   have f1:=hz.fz 1
   have f2:=hz.fz 2
   have f3:=hz.fz 3
   have f4:=hz.fz 4
   clear hz
   go_wp2_with fail
   refine bodyPost_ret (v:=.tuple #[.agg #[.bool false,.slice none 0 0,.bool false,.slice none 0 0,.bool false],.bool false,.int .i64 u]) ?_ rfl ⟨.inl (by rw [HX.out];exact ⟨rfl,rfl⟩),HC8.out _ HC3.out _ _ _ _ _⟩
   rw [results_cell_tt rfl]
   go_simp
 ·have HX:=Lib.hid (HX1.out hv0)
  have hv1 : (v == 0) = false:=by rw [beq_eq_false_iff_ne];exact hv0
  have hz:=HBz.out.calm hc2
  have z0:=hz.c0
  have z1:=hz.c1
  have z2:=hz.c2
  have z3:=hz.c3
  have z4:=hz.c4
  have f0:=hz.fz 0
  have f1:=hz.fz 1
  have f2:=hz.fz 2
  have f3:=hz.fz 3
  have f4:=hz.fz 4
  clear hz hc2
  go_wp2_with fail
  refine bodyPost_ret (v:=.tuple #[.agg #[.bool false,.slice none 0 0,.bool false,.slice none 0 0,.bool false],.bool false,.int .i64 v]) ?_ rfl ⟨.inl (by rw [HX.out];exact ⟨rfl,rfl⟩),HC8.out _ HC2.out _ _ _ _ _⟩
  rw [results_cell_tt rfl]
  go_simp
end Go.Proofs.YthopphabeddnfaaGreatDoor
