/- Walk: view.Entries. -/
import Derived.Deep.RegionHeld3
import Derived.Deep.RegionWith
import Derived.Test.YthopphabeddnfaaGreatDoorZNarW
import Derived.Test.YthopphabeddnfaaGreatDoorZEntM
import Derived.Test.YthopphabeddnfaaGreatDoorZCarryW
import Derived.Test.YthopphabeddnfaaGreatDoorZRed3W
import Derived.Test.YthopphabeddnfaaGreatDoorZVoidA
import Derived.Test.YthopphabeddnfaaGreatDoorZViewW
set_option linter.unusedVariables false
set_option linter.unusedSimpArgs false
namespace Go.Proofs.YthopphabeddnfaaGreatDoor
open Go Go.RowKit Sy

set_option maxHeartbeats 16000000 in
theorem nright_c (r : Rule) (p : Pat) (a : Pl) (n pc : Nat) (re : Bool) (A : Option Addr) (w : World) (hr : RuleU w a r) (hs : SmallR r) (hp : PatA w A pc p) (hn : p.parts.length = n) (hre : p.rest = re) :
  Calls Tryz.prog 14 #[ruleV a r,.agg #[.slice A n pc,.bool re]] w fun e w'=>NarEnd (narR r p) w.heap.size e w' ∧ Calm w w':=by
 obtain ⟨nl,hnl⟩ : ∃ nl,r.left.parts.length = nl:=⟨_,rfl⟩
 obtain ⟨nr,hnr⟩ : ∃ nr,r.right.parts.length = nr:=⟨_,rfl⟩
 obtain ⟨lr,hlr⟩ : ∃ lr,r.left.rest = lr:=⟨_,rfl⟩
 obtain ⟨rr,hrr⟩ : ∃ rr,r.right.rest = rr:=⟨_,rfl⟩
 obtain ⟨ex,hex⟩ : ∃ ex,r.excl = ex:=⟨_,rfl⟩
 obtain ⟨w1,hw1⟩ : ∃ w1,w1 = ((w.alloc (.cells #[.bool ex,.slice a.AL nl a.cl,.bool lr,.slice a.AR nr a.cr,.bool rr] 44)).alloc (.cells #[.slice A n pc,.bool re] 37)).alloc (.cells #[.bool false,.slice none 0 0,.bool false,.slice none 0 0,.bool false] 44):=⟨_,rfl⟩
 have hc1 : Calm w w1:=by rw [hw1];exact (((Calm.refl w).alloc _).alloc _).alloc _
 have hbr : FiveB w1 w.heap.size (.bool ex) (.slice a.AL nl a.cl) (.bool lr) (.slice a.AR nr a.cr) (.bool rr):=by
  rw [hw1]
  exact (FiveB.new w _ _ _ _ _ _).calm (((Calm.refl _).alloc _).alloc _)
 have hbp : TwoB w1 (w.heap.size + 1) (.slice A n pc) (.bool re):=by
  rw [hw1]
  have:=(TwoB.new (w.alloc (.cells #[.bool ex,.slice a.AL nl a.cl,.bool lr,.slice a.AR nr a.cr,.bool rr] 44)) (.slice A n pc) (.bool re) 37).calm ((Calm.refl _).alloc (.cells #[.bool false,.slice none 0 0,.bool false,.slice none 0 0,.bool false] 44))
  simpa using this
 have hbz : FiveB w1 (w.heap.size + 1 + 1) (.bool false) (.slice none 0 0) (.bool false) (.slice none 0 0) (.bool false):=by
  rw [hw1]
  have:=FiveB.new ((w.alloc (.cells #[.bool ex,.slice a.AL nl a.cl,.bool lr,.slice a.AR nr a.cr,.bool rr] 44)).alloc (.cells #[.slice A n pc,.bool re] 37)) (.bool false) (.slice none 0 0) (.bool false) (.slice none 0 0) (.bool false) 44
  simpa using this
 obtain ⟨v,hv⟩ : ∃ v,ruleErr r = v:=⟨_,rfl⟩
 have KR : Hid (∀ W,Calm w1 W → Calls Tryz.prog 34 #[.agg #[.bool ex,.slice a.AL nl a.cl,.bool lr,.slice a.AR nr a.cr,.bool rr]] W fun e w'=>e = .returned (.int .i64 v) ∧ Calm W w'):=fun W hW=>by
  have:=rule_c r a W ((hr.calm hc1).calm hW)
  unfold ruleV at this
  rw [hnl,hnr,hlr,hrr,hex,hv] at this
  exact this
 have KL : Hid (∀ W,Calm w1 W → Calls Tryz.prog 35 #[.agg #[.bool false,.slice a.AR nr a.cr,.bool rr,.slice a.AL nl a.cl,.bool lr],.agg #[.slice A n pc,.bool re]] W fun e w'=>NarEnd (narL ⟨false,r.right,r.left⟩ p) W.heap.size e w' ∧ Calm W w'):=fun W hW=>by
  have h2:=(hr.calm hc1).calm hW
  have:=nleft_c ⟨false,r.right,r.left⟩ p a.turn n pc re A W ⟨h2.rr,h2.lr,h2.rroom,h2.lroom,h2.rcap,h2.lcap⟩ ⟨hs.rp,hs.rs,hs.lp,hs.ls⟩ ((hp.calm hc1).calm hW) hn hre
  unfold ruleV Pl.turn at this
  rw [show (⟨false,r.right,r.left⟩ : Rule).left = r.right from rfl,show (⟨false,r.right,r.left⟩ : Rule).right = r.left from rfl,hnl,hnr,hlr,hrr] at this
  exact this
 have HX1 : Hid (v ≠ 0 → narR r p = (none,v)):=fun h=>by
  unfold narR
  rw [hv,if_pos h]
 have HX2 : Hid (∀ x,v = 0 → narL ⟨false,r.right,r.left⟩ p = (none,x) → narR r p = (none,x)):=fun x h h2=>by
  unfold narR
  rw [hv,if_neg (by simpa using h),h2]
  rfl
 have HX3 : Hid (∀ m,v = 0 → narL ⟨false,r.right,r.left⟩ p = (some m,0) → narR r p = (some m.turn,0)):=fun m h h2=>by
  unfold narR
  rw [hv,if_neg (by simpa using h),h2]
  rfl
 have HE : Hid (∀ m x,narL ⟨false,r.right,r.left⟩ p = (some m,x) → m.excl = false):=fun m x h=>by
  obtain ⟨_,_,_,m',_,rfl,_⟩:=narL_some (show (narL ⟨false,r.right,r.left⟩ p).1 = some m by rw [h])
  rfl
 have HW:=Lib.hid hw1
 have HC:=Lib.hid hc1
 have HBr:=Lib.hid hbr
 have HBp:=Lib.hid hbp
 have HBz:=Lib.hid hbz
 have hsz : w.heap.size + 1 + 1 < w1.heap.size:=hbz.lt
 unfold ruleV
 rw [hnl,hnr,hlr,hrr,hex]
 clear hw1 hc1 hbr hbp hbz hr hs hp hn hre hnl hnr hlr hrr hex hv
 obtain ⟨X,hX⟩ : ∃ X,narL ⟨false,r.right,r.left⟩ p = X:=⟨_,rfl⟩
 rw [hX] at KL HX2 HX3 HE
 clear hX
 have HC8 : Hid (∀ W,Calm w1 W → ∀ u0 u1 u2 u3 u4,Calm w (set5 W (w.heap.size + 1 + 1) u0 u1 u2 u3 u4)):=fun W hW u0 u1 u2 u3 u4=>calm5 (HC.out.trans hW) (by omega) _ _ _ _ _
 go_enter Tryz.func14,Tryz.ntmps14
 have b:=HBr.out
 have b0:=b.c0
 have b1:=b.c1
 have b2:=b.c2
 have b3:=b.c3
 have b4:=b.c4
 clear b
 go_wp2_with fail
 rw [← HW.out]
 refine (KR.out w1 (Calm.refl _)).mono ?_
 rintro e w2 ⟨rfl,hc2⟩
 clear b0 b1 b2 b3 b4
 have HC2:=Lib.hid hc2
 by_cases hv0 : v = 0
 ·subst hv0
  have b:=HBr.out.calm hc2
  have b1:=b.c1
  have b2:=b.c2
  have b3:=b.c3
  have b4:=b.c4
  have p0:=(HBp.out.calm hc2).c0
  have p1:=(HBp.out.calm hc2).c1
  clear b hc2
  go_wp2_with fail
  refine (KL.out w2 HC2.out).mono ?_
  rintro e w3 ⟨hE,hc3⟩
  have HC3 : Hid (Calm w1 w3):=HC2.out.trans hc3
  have hsz2 : w1.heap.size ≤ w2.heap.size:=HC2.out.size
  clear b1 b2 b3 b4 p0 p1 hc3
  obtain ⟨o,x⟩:=X
  rcases hE with ⟨h1,rfl⟩ | ⟨m,a2,h1,rfl,hN⟩
  ·simp only at h1
   subst h1
   have HX:=Lib.hid (HX2.out x (by trivial) rfl)
   have hm:=FiveB.new w3 (.bool false) (.slice none 0 0) (.bool false) (.slice none 0 0) (.bool false) 44
   have m1:=hm.c1
   have m2:=hm.c2
   have m3:=hm.c3
   have m4:=hm.c4
   have hz:=HBz.out.calm (HC3.out.alloc (.cells #[.bool false,.slice none 0 0,.bool false,.slice none 0 0,.bool false] 44))
   have z0:=hz.c0
   have z1:=hz.c1
   have z2:=hz.c2
   have z3:=hz.c3
   have z4:=hz.c4
   have f0:=hz.fz 0
   have f1:=hz.fz 1
   have f2:=hz.fz 2
   have f3:=hz.fz 3
   have f4:=hz.fz 4
   clear hz hm
   go_wp2_with fail
   refine bodyPost_ret (v:=.tuple #[.agg #[.bool false,.slice none 0 0,.bool false,.slice none 0 0,.bool false],.bool false,.int .i64 x]) ?_ rfl ⟨.inl (by rw [HX.out];exact ⟨rfl,rfl⟩),HC8.out _ (HC3.out.alloc _) _ _ _ _ _⟩
   rw [results_cell_tt rfl]
   go_simp
  ·have hex:=HE.out m 0 h1
   have HX:=Lib.hid (HX3.out m (by trivial) h1)
   unfold ruleV
   rw [hex]
   obtain ⟨ml,hml⟩ : ∃ ml,m.left.parts.length = ml:=⟨_,rfl⟩
   obtain ⟨mr,hmr⟩ : ∃ mr,m.right.parts.length = mr:=⟨_,rfl⟩
   obtain ⟨tl,htl⟩ : ∃ tl,m.left.rest = tl:=⟨_,rfl⟩
   obtain ⟨tr,htr⟩ : ∃ tr,m.right.rest = tr:=⟨_,rfl⟩
   rw [hml,hmr,htl,htr]
   have HRu : Hid (∀ u0 u1 u2 u3 u4,RuleN (set5 (w3.alloc (.cells #[.bool false,.slice a2.AL ml a2.cl,.bool tl,.slice a2.AR mr a2.cr,.bool tr] 44)) (w.heap.size + 1 + 1) u0 u1 u2 u3 u4) w.heap.size a2.turn m.turn):=fun u0 u1 u2 u3 u4=>by
    have h2:=(hN.calm ((Calm.refl _).alloc (.cells #[.bool false,.slice a2.AL ml a2.cl,.bool tl,.slice a2.AR mr a2.cr,.bool tr] 44))).mono hsz2
    exact ⟨(h2.r.set5 hsz _ _ _ _ _).mono (by omega),(h2.l.set5 hsz _ _ _ _ _).mono (by omega)⟩
   have HV : Hid (ruleV a2.turn m.turn = .agg #[.bool false,.slice a2.AR mr a2.cr,.bool tr,.slice a2.AL ml a2.cl,.bool tl]):=by
    show _ = _
    rw [← hml,← hmr,← htl,← htr,← hex]
    rfl
   have hm:=FiveB.new w3 (.bool false) (.slice a2.AL ml a2.cl) (.bool tl) (.slice a2.AR mr a2.cr) (.bool tr) 44
   have m1:=hm.c1
   have m2:=hm.c2
   have m3:=hm.c3
   have m4:=hm.c4
   have hz:=HBz.out.calm (HC3.out.alloc (.cells #[.bool false,.slice a2.AL ml a2.cl,.bool tl,.slice a2.AR mr a2.cr,.bool tr] 44))
   have z0:=hz.c0
   have z1:=hz.c1
   have z2:=hz.c2
   have z3:=hz.c3
   have z4:=hz.c4
   have f0:=hz.fz 0
   have f1:=hz.fz 1
   have f2:=hz.fz 2
   have f3:=hz.fz 3
   have f4:=hz.fz 4
   clear hz hm hN h1 hex hml hmr htl htr
   go_wp2_with fail
   refine bodyPost_ret (v:=.tuple #[.agg #[.bool false,.slice a2.AR mr a2.cr,.bool tr,.slice a2.AL ml a2.cl,.bool tl],.bool true,.int .i64 0]) ?_ rfl ⟨.inr ⟨m.turn,a2.turn,HX.out,by rw [HV.out],HRu.out _ _ _ _ _⟩,HC8.out _ (HC3.out.alloc _) _ _ _ _ _⟩
   rw [results_cell_tt rfl]
   go_simp
 ·have HX:=Lib.hid (HX1.out hv0)
  have hv1 : (v == 0) = false:=by rw [beq_eq_false_iff_ne];exact hv0
  have hz:=HBz.out.calm hc2
  have z0:=hz.c0
  have z1:=hz.c1
  have z2:=hz.c2
  have z3:=hz.c3
  have z4:=hz.c4
  have f0:=hz.fz 0
  have f1:=hz.fz 1
  have f2:=hz.fz 2
  have f3:=hz.fz 3
  have f4:=hz.fz 4
  clear hz hc2
  go_wp2_with fail
  refine bodyPost_ret (v:=.tuple #[.agg #[.bool false,.slice none 0 0,.bool false,.slice none 0 0,.bool false],.bool false,.int .i64 v]) ?_ rfl ⟨.inl (by rw [HX.out];exact ⟨rfl,rfl⟩),HC8.out _ HC2.out _ _ _ _ _⟩
  rw [results_cell_tt rfl]
  go_simp
end Go.Proofs.YthopphabeddnfaaGreatDoor
set_option linter.unusedVariables false
set_option linter.unusedSimpArgs false
namespace Go.Proofs.YthopphabeddnfaaGreatDoor
open Go Go.RowKit Sy

theorem RulesU.drop {w : World} {b o : Nat} {A : Option Addr} {rs : List Rule} (h : RulesU w (some ⟨b,o,none⟩) rs) {k : Nat} (hA : k < rs.length → A = some ⟨b,o + k * 5,none⟩) : RulesU w A (rs.drop k):=by
 refine ⟨by rw [List.length_drop];have:=h.len;omega,fun h0=>?_⟩
 rw [List.length_drop] at h0
 obtain ⟨b',o',e,hb,hk⟩:=h.at_ (by omega)
 obtain ⟨rfl,rfl⟩ : b = b' ∧ o = o':=by simpa using e
 refine ⟨b,o + k * 5,hA (by omega),hb,fun j r hr=>?_⟩
 rw [List.getElem?_drop] at hr
 obtain ⟨a,h1,h2⟩:=hk _ _ hr
 have e2 : o + (k + j) * 5 = o + k * 5 + j * 5:=by omega
 rw [e2] at h1
 exact ⟨a,h1,h2⟩
theorem narR_each {r n : Rule} {q : Pat} {L : Nat} (h : (narR r q).1 = some n) (hL : 1 ≤ L) (hl : ∀ x ∈ r.left.parts,x.length ≤ L) (hr : ∀ x ∈ r.right.parts,x.length ≤ L) (hq : ∀ x ∈ q.parts,x.length ≤ L) : ∀ x ∈ n.left.parts,x.length ≤ L + L:=by
 unfold narR at h
 by_cases h0 : ruleErr r ≠ 0
 ·rw [if_pos h0] at h
  cases h
 ·rw [if_neg h0] at h
  simp only at h
  rcases hn : (narL ⟨false,r.right,r.left⟩ q).1 with _ | m
  ·rw [hn] at h;cases h
  ·rw [hn] at h
   obtain rfl:=Option.some.inj h
   obtain ⟨_,_,_,p,hp,rfl,h1,h2⟩:=narL_some hn
   exact carry_each h2 hl (meet_each hp hr hq hL)
structure EntI (w0 wr : World) (v : Value) (rs : List Rule) (i : Nat) (zs : List NewE) : Prop where
 own : OwnX encE 5 40 w0 wr v zs
 is : entsL rs = (entsL (rs.drop i)).map (zs.map (·.e) ++ ·)
 each : ∀ z ∈ zs,EntN wr w0.heap.size z
 few : zs.length ≤ i
theorem EntI.nil {w0 : World} (rs : List Rule) : EntI w0 w0 (.slice none 0 0) rs 0 []:=⟨OwnX.nil (Calm.refl _),by simp,(fun z hz=>by cases hz),Nat.le_refl _⟩
theorem EntI.calm {w0 wr w2 : World} {v : Value} {rs : List Rule} {i : Nat} {zs : List NewE} (h : EntI w0 wr v rs i zs) (hc : Calm wr w2) : EntI w0 w2 v rs i zs:=⟨h.own.to hc,h.is,fun z hz=>(h.each z hz).calm hc,h.few⟩
theorem drop_get {α : Type} {l : List α} {i : Nat} {x : α} (h : l[i]? = some x) : l.drop i = x :: l.drop (i + 1):=by
 obtain ⟨hlt,rfl⟩:=List.getElem?_eq_some_iff.1 h
 exact List.drop_eq_getElem_cons hlt
theorem EntI.skip {w0 wr w2 : World} {v : Value} {rs : List Rule} {i : Nat} {zs : List NewE} {r : Rule} (h : EntI w0 wr v rs i zs) (hr : rs[i]? = some r) (hx : r.excl = true) (hc : Calm wr w2) : EntI w0 w2 v rs (i + 1) zs:=by
 refine ⟨h.own.to hc,?_,fun z hz=>(h.each z hz).calm hc,by have:=h.few;omega⟩
 rw [h.is,drop_get hr]
 simp only [entsL]
 rw [if_pos hx]
theorem EntI.stop {w0 wr : World} {v : Value} {rs : List Rule} {i : Nat} {zs : List NewE} {r : Rule} (h : EntI w0 wr v rs i zs) (hr : rs[i]? = some r) (hx : r.excl = false) (hn : entHoles r (rs.drop (i + 1)) = none) : entsL rs = none:=by
 rw [h.is,drop_get hr]
 simp only [entsL]
 rw [if_neg (by rw [hx];decide),hn]
 rfl
theorem EntI.void {w0 wr w2 : World} {v : Value} {rs : List Rule} {i : Nat} {zs : List NewE} {r : Rule} {hs : List Pat} (h : EntI w0 wr v rs i zs) (hr : rs[i]? = some r) (hx : r.excl = false) (hn : entHoles r (rs.drop (i + 1)) = some hs) (hl : leastLen r.left (redL r.left hs) = 0) (hc : Calm wr w2) : EntI w0 w2 v rs (i + 1) zs:=by
 refine ⟨h.own.to hc,?_,fun z hz=>(h.each z hz).calm hc,by have:=h.few;omega⟩
 rw [h.is,drop_get hr]
 simp only [entsL]
 rw [if_neg (by rw [hx];decide),hn]
 simp only [hl,if_pos]
 simp
theorem EntI.add {w0 wr w2 w3 : World} {v v2 : Value} {rs : List Rule} {i : Nat} {zs : List NewE} {z : NewE} {r : Rule} {hs : List Pat} (h : EntI w0 wr v rs i zs) (hr : rs[i]? = some r) (hx : r.excl = false) (hn : entHoles r (rs.drop (i + 1)) = some hs) (hl : leastLen r.left (redL r.left hs) ≠ 0) (hz : z.e = entOf r hs) (hc : Calm wr w2) (hzn : EntN w2 w0.heap.size z) (hg : w2.grownBy w3 v.ownBlock) (hown : OwnX encE 5 40 w0 w3 v2 (zs ++ [z])) : EntI w0 w3 v2 rs (i + 1) (zs ++ [z]):=by
 refine ⟨hown,?_,fun y hy=>?_,by have:=h.few;rw [List.length_append,List.length_singleton];omega⟩
 ·rw [h.is,drop_get hr]
  simp only [entsL]
  rw [if_neg (by rw [hx];decide),hn]
  simp only [if_neg hl,Option.map_map]
  congr 1
  funext es
  simp [hz]
 ·rcases List.mem_append.1 hy with hy | hy
  ·exact ((h.each y hy).calm hc).own (by decide) (by decide) (h.own.to hc).own hg
  ·rw [List.mem_singleton] at hy
   subst hy
   exact hzn.own (by decide) (by decide) (h.own.to hc).own hg
theorem EntI.reads {w0 wr : World} {v : Value} {rs : List Rule} {zs : List NewE} (h : EntI w0 wr v rs rs.length zs) : entsL rs = some (zs.map (·.e)) ∧ ∃ A c,v = .slice A zs.length c ∧ zs.length ≤ c ∧ c ≤ 9223372036854775807 ∧ EntsR wr A (zs.map (·.e)):=by
 refine ⟨?_,?_⟩
 ·rw [h.is,List.drop_length]
  simp [entsL]
 ·rcases h.own.row encE_len with ⟨rfl,h0⟩ | ⟨g,c,rfl,h1,h2,_,hr⟩
  ·subst h0
   exact ⟨none,0,rfl,Nat.le_refl _,by omega,[],rfl,fun h=>absurd rfl h,fun y hy=>by cases hy⟩
  ·exact ⟨_,c,rfl,h1,h2,zs,rfl,fun _=>⟨g,0,rfl,hr.lt,fun k x hk i u hu=>hr.cell k x hk i u hu⟩,fun z hz=>(h.each z hz).u⟩
def EntEnd (x : List Ent × Int) (e : Ending) (w' : World) : Prop:=
 (x.1 = [] ∧ x.2 ≠ 0 ∧ e = .returned (.tuple #[.slice none 0 0,.int .i64 x.2])) ∨
 (x.2 = 0 ∧ ∃ A c,e = .returned (.tuple #[.slice A x.1.length c,.int .i64 0]) ∧ EntsR w' A x.1 ∧ x.1.length ≤ c ∧ c ≤ 9223372036854775807)
end Go.Proofs.YthopphabeddnfaaGreatDoor
set_option linter.unusedVariables false
set_option linter.unusedSimpArgs false
namespace Go.Proofs.YthopphabeddnfaaGreatDoor
open Go Go.RowKit Sy

set_option maxRecDepth 100000 in
set_option maxHeartbeats 16000000 in
theorem entries_c (rs : List Rule) (RA : Option Addr) (n rc : Nat) (w : World) (hr : RulesU w RA rs) (hsm : viewErr rs = 0 → ∀ r ∈ rs,SmallV r) (hn : rs.length = n) (h20 : n ≤ 20) (hroom : n ≤ rc) (hcap : rc ≤ 9223372036854775807) :
  Calls Tryz.prog 5 #[.slice RA n rc] w fun e w'=>EntEnd (entE rs) e w' ∧ Calm w w':=by
 obtain ⟨ix,hix⟩ : ∃ ix,viewIx rs = ix:=⟨_,rfl⟩
 obtain ⟨x,hx⟩ : ∃ x,viewErr rs = x:=⟨_,rfl⟩
 have KV:=vcheck_v rs ix x RA n rc w hr hn hix hx
 have HR:=Lib.hid hr
 have HS:=Lib.hid hsm
 have HN:=Lib.hid hn
 have HX:=Lib.hid hx
 clear hr hsm hn hix hx
 go_enter Tryz.func5,Tryz.ntmps5
 go_wp2_with fail
 refine KV.mono ?_
 rintro e w2 ⟨rfl,hc2⟩
 have HC2:=Lib.hid hc2
 clear hc2 KV
 by_cases hx0 : x = 0
 ·subst hx0
  have HG : Hid (∀ r ∈ rs,ruleErr r = 0):=(viewErr_ok.1 HX.out).1
  go_wp2_with fail
  go_loopw [6,26] (fun v u wr=>∃ (i : Nat) (zs : List NewE),i ≤ n ∧ u = .int .i64 i ∧ Hid (EntI w2 wr v rs i zs)) (fun _ u _=>n - (intOf u).toNat)
  case atStart=>exact ⟨0,[],Nat.zero_le _,rfl,EntI.nil rs⟩
  case round=>
   obtain ⟨i,zs,hi,rfl,HI⟩:=hrel
   by_cases hlt : i < n
   ·obtain ⟨b,o,r,a,rfl,hb,hri,hat,hru⟩:=(HR.out.calm (HC2.out.trans HI.out.own.calm)).get (k:=i) (by rw [HN.out];exact hlt)
    obtain ⟨nl,hnl⟩ : ∃ nl,r.left.parts.length = nl:=⟨_,rfl⟩
    obtain ⟨nr,hnr⟩ : ∃ nr,r.right.parts.length = nr:=⟨_,rfl⟩
    obtain ⟨lr,hlr⟩ : ∃ lr,r.left.rest = lr:=⟨_,rfl⟩
    obtain ⟨rr,hrr⟩ : ∃ rr,r.right.rest = rr:=⟨_,rfl⟩
    obtain ⟨ex,hex⟩ : ∃ ex,r.excl = ex:=⟨_,rfl⟩
    have c0:=hat.c0
    have c1:=hat.c1
    have c2:=hat.c2
    have c3:=hat.c3
    have c4:=hat.c4
    rw [hnl] at c1
    rw [hnr] at c3
    rw [hlr] at c2
    rw [hrr] at c4
    rw [hex] at c0
    have HNN:=Lib.hid (And.intro hnl (And.intro hnr (And.intro hlr (And.intro hrr hex))))
    have HRi:=Lib.hid hri
    have HRu:=Lib.hid hru
    have HSr : Hid (SmallV r):=HS.out HX.out r (List.mem_of_getElem? hri)
    clear hat hnl hnr hlr hrr hex hri hru
    cases ex with
    |true=>
     go_wp2_with fail
     go_roundw
     case rel=>exact ⟨i + 1,zs,by omega,by go_num,HI.out.skip HRi.out HNN.out.2.2.2.2 ((Calm.refl _).alloc _)⟩
     case measure=>simp [intOf];omega
    |false=>
     have hi1 : (0 : Int) ≤ (i : Int) + 1:=by omega
     have hi2 : (i : Int) + 1 ≤ (n : Int):=by omega
     have hi3 : (n : Int) ≤ (rc : Int):=by omega
     have hi4 : i + 1 ≤ n:=by omega
     have hiw : IntKind.i64.wrap ((i : Int) + 1) = (i : Int) + 1:=by rw [IntKind.wrap_i64];omega
     have hsp : rc = i + 1 ∨ ¬ rc = i + 1:=Decidable.em _
     rcases hsp with rfl | hsp
     all_goals
      go_wp2_with fail
      obtain ⟨w3,hw3⟩ : ∃ w3,w3 = wr.alloc (.cells #[.bool false,.slice a.AL nl a.cl,.bool lr,.slice a.AR nr a.cr,.bool rr] 44):=⟨_,rfl⟩
      have HB8 : Hid (FiveB w3 wr.heap.size (.bool false) (.slice a.AL nl a.cl) (.bool lr) (.slice a.AR nr a.cr) (.bool rr)):=by
       show FiveB _ _ _ _ _ _ _
       rw [hw3]
       exact FiveB.new wr _ _ _ _ _ _
      have HW3 : Hid (Calm wr w3):=by
       show Below _ _ _
       rw [hw3]
       exact (Calm.refl _).alloc _
      rw [← hw3]
      obtain ⟨B8,hB8⟩ : ∃ B8,wr.heap.size = B8:=⟨_,rfl⟩
      rw [hB8] at HB8
      simp only [hB8]
      have HBne : Hid (some B8 ≠ u6.ownBlock):=fun e=>by
       have:=HI.out.own.blk_lt e
       omega
      obtain ⟨L,hL⟩ : ∃ L,n - (i + 1) = L:=⟨_,rfl⟩
      try simp only [hL]
      have HI3 : Hid (EntI w2 w3 u6 rs i zs):=HI.out.calm HW3.out
      have HR3 : Hid (Calm w w3):=HC2.out.trans HI3.out.own.calm
      have HRu3 : Hid (RuleU w3 a r):=HRu.out.calm HW3.out
      have HLs : Hid ((rs.drop (i + 1)).length = L):=by
       show _ = _
       rw [List.length_drop,HN.out]
       exact hL
      have hb3 : b < w3.heap.size:=Nat.lt_of_lt_of_le hb HW3.out.size
      have KN : Hid (∀ (q : Rule) (a' : Pl) (qr : Nat) (qrr : Bool) (W : World),RuleU w3 a' q → SmallV q → q.right.parts.length = qr → q.right.rest = qrr → Calm w3 W → Calls Tryz.prog 14 #[.agg #[.bool false,.slice a.AL nl a.cl,.bool lr,.slice a.AR nr a.cr,.bool rr],.agg #[.slice a'.AR qr a'.cr,.bool qrr]] W fun e w'=>NarEnd (narR r q.right) W.heap.size e w' ∧ Calm W w'):=fun q a' qr qrr W hq hs hql hqr hW=>by
       have:=nright_c r q.right a qr a'.cr qrr a'.AR W (HRu3.out.calm hW) HSr.out.small ⟨(hq.calm hW).right hs.small,hq.rroom,hq.rcap⟩ hql hqr
       unfold ruleV at this
       rw [HNN.out.1,HNN.out.2.1,HNN.out.2.2.1,HNN.out.2.2.2.1,HNN.out.2.2.2.2] at this
       exact this
      have h40 : L ≤ 20:=by omega
      clear hw3 hB8 c0 c1 c2 c3 c4 HI HRu
      go_loopw [9,38] (fun h u wr=>∃ (k : Nat) (ys : List NewP),k ≤ L ∧ u = .int .i64 k ∧ Hid (HolI w3 wr h r (rs.drop (i + 1)) k ys)) (fun _ u _=>L - (intOf u).toNat)
      case atStart=>exact ⟨0,[],Nat.zero_le _,rfl,HolI.nil _ _⟩
      case round=>
       obtain ⟨k,ys,hk,rfl,HH⟩:=hrel
       obtain ⟨wq,rfl⟩ : ∃ wq,wq = wr:=⟨_,rfl⟩
       by_cases hlt2 : k < L
       ·first
        |(exfalso;omega)
        |(have HDr : Hid (RulesU w3 (some ⟨b,o + (i + 1) * 5,none⟩) (rs.drop (i + 1))):=(HR.out.calm HR3.out).drop (fun _=>rfl)
          obtain ⟨b',o',q,a',e9,hbq,hqi,hqat,hqu⟩:=(HDr.out).get (k:=k) (by rw [HLs.out];exact hlt2)
          obtain ⟨rfl,rfl⟩ : b = b' ∧ o + (i + 1) * 5 = o':=by simpa using e9
          obtain ⟨ql,hql⟩ : ∃ ql,q.left.parts.length = ql:=⟨_,rfl⟩
          obtain ⟨qr,hqr⟩ : ∃ qr,q.right.parts.length = qr:=⟨_,rfl⟩
          obtain ⟨qlr,hqlr⟩ : ∃ qlr,q.left.rest = qlr:=⟨_,rfl⟩
          obtain ⟨qrr,hqrr⟩ : ∃ qrr,q.right.rest = qrr:=⟨_,rfl⟩
          obtain ⟨qx,hqx⟩ : ∃ qx,q.excl = qx:=⟨_,rfl⟩
          have c0:=hqat.c0
          have c1:=hqat.c1
          have c2:=hqat.c2
          have c3:=hqat.c3
          have c4:=hqat.c4
          rw [hql] at c1
          rw [hqr] at c3
          rw [hqlr] at c2
          rw [hqrr] at c4
          rw [hqx] at c0
          have c0:=Calm.at_ HH.out.own.calm c0 hb3
          have c1:=Calm.at_ HH.out.own.calm c1 hb3
          have c2:=Calm.at_ HH.out.own.calm c2 hb3
          have c3:=Calm.at_ HH.out.own.calm c3 hb3
          have c4:=Calm.at_ HH.out.own.calm c4 hb3
          have HQn:=Lib.hid (And.intro hql (And.intro hqr (And.intro hqlr (And.intro hqrr hqx))))
          have HQi:=Lib.hid hqi
          have HQu:=Lib.hid hqu
          have hqm : q ∈ rs:=List.mem_of_mem_drop (List.mem_of_getElem? hqi)
          have HQs : Hid (SmallV q):=HS.out HX.out q hqm
          have hyl:=HH.out.len (fun z hz=>HG.out z (List.mem_of_mem_drop hz)) trivial
          have KN2:=Lib.hid (KN.out q a' qr qrr)
          clear e9 hqi hqat hqu hql hqr hqlr hqrr hqx hqm
          have HB11 : Hid (FiveB ((wq.alloc (.cells #[.bool qx,.slice a'.AL ql a'.cl,.bool qlr,.slice a'.AR qr a'.cr,.bool qrr] 44)).alloc (.cells #[.slice a'.AL ql a'.cl,.bool qlr] 37)) wq.heap.size (.bool qx) (.slice a'.AL ql a'.cl) (.bool qlr) (.slice a'.AR qr a'.cr) (.bool qrr)):=(FiveB.new wq _ _ _ _ _ _).calm ((Calm.refl _).alloc _)
          obtain ⟨⟨no,x⟩,hX⟩ : ∃ X,narR r q.right = X:=⟨_,rfl⟩
          rw [hX] at KN2
          have HXn:=Lib.hid hX
          clear hX
          go_wp2_with (at_builtin;refine wpList_append_ps rfl (.tmp 42) (.tmp 45) rfl w3 _ ys [⟨a'.AL,a'.cl,q.left⟩] rfl (HH.out.own.to (((Calm.refl _).alloc _).alloc _)) _ 1 1 rfl rfl (read_newH ⟨a'.AL,a'.cl,q.left⟩ (by simp) HQn.out.1 HQn.out.2.2.1) (by omega) ?_;intro v5 w5 hown5 hg5;have hblk:=hg5.block wq.heap.size HB11.out.lt (fun e=>by have:=HH.out.own.blk_lt e;omega);have e3:=(World.cell?_of_block (a:=⟨wq.heap.size,3,none⟩) hblk).trans HB11.out.c3;have e4:=(World.cell?_of_block (a:=⟨wq.heap.size,4,none⟩) hblk).trans HB11.out.c4;have HO5:=Lib.hid hown5;have HG5:=Lib.hid hg5;have b8:=HB8.out.calm hown5.calm;have d0:=b8.c0;have d1:=b8.c1;have d2:=b8.c2;have d3:=b8.c3;have d4:=b8.c4;clear hblk b8 hown5 hg5)
          refine (KN2.out w5 HQu.out HQs.out HQn.out.2.1 HQn.out.2.2.2.1 HO5.out.calm).mono ?_
          rintro e w6 ⟨hE,hc6⟩
          have HC6:=Lib.hid hc6
          have hxe : PatA w3 a'.AL a'.cl q.left:=⟨HQu.out.left HQs.out.small,HQu.out.lroom,HQu.out.lcap⟩
          have HXe:=Lib.hid hxe
          have HAl : Hid (Calm wq ((wq.alloc (.cells #[.bool qx,.slice a'.AL ql a'.cl,.bool qlr,.slice a'.AR qr a'.cr,.bool qrr] 44)).alloc (.cells #[.slice a'.AL ql a'.cl,.bool qlr] 37))):=((Calm.refl _).alloc _).alloc _
          clear hc6 hxe c0 c1 c2 c3 c4 d0 d1 d2 d3 d4 e3 e4
          rcases hE with ⟨h1,rfl⟩ | ⟨m,a2,h1,rfl,hNm⟩
          ·simp only at h1
           subst h1
           simp only
           by_cases hx0 : x = 0
           ·subst hx0
            have HSk : Hid (HolI w3 w6 v5 r (rs.drop (i + 1)) (k + 1) (ys ++ [⟨a'.AL,a'.cl,q.left⟩])):=by
             have h2:=HH.out.skip HQi.out (by rw [HXn.out]) (by rw [HXn.out]) (x:=⟨a'.AL,a'.cl,q.left⟩) rfl HXe.out HAl.out HG5.out HO5.out
             exact ⟨h2.own.to HC6.out,h2.is,fun y hy=>(h2.each y hy).imp id (fun h=>h.calm HC6.out)⟩
            have HSk2 : Hid (HolI w3 (w6.alloc (.cells #[.bool false,.slice none 0 0,.bool false,.slice none 0 0,.bool false] 44)) v5 r (rs.drop (i + 1)) (k + 1) (ys ++ [⟨a'.AL,a'.cl,q.left⟩])):=⟨HSk.out.own.to ((Calm.refl _).alloc _),HSk.out.is,fun y hy=>(HSk.out.each y hy).imp id (fun h=>h.calm ((Calm.refl _).alloc _))⟩
            go_wp2_with fail
            go_roundw
            case rel=>exact ⟨k + 1,ys ++ [⟨a'.AL,a'.cl,q.left⟩],by omega,by go_num,HSk2⟩
            case measure=>simp [intOf];omega
           ·have hx1 : (x == 0) = false:=by rw [beq_eq_false_iff_ne];exact hx0
            have HSt : Hid (entE rs = ([],61)):=by
             show _ = _
             unfold entE
             rw [HX.out,if_neg (by decide),HI3.out.stop HRi.out HNN.out.2.2.2.2 (HH.out.stop HQi.out (by rw [HXn.out];exact hx0))]
            have HCz : Hid (Calm w (w6.alloc (.cells #[.bool false,.slice none 0 0,.bool false,.slice none 0 0,.bool false] 44))):=(HR3.out.trans (HO5.out.calm.trans HC6.out)).alloc _
            go_wp2_with fail
            go_ret2
            exact ⟨.inl (by rw [HSt.out];exact ⟨rfl,by decide,rfl⟩),HCz.out⟩
          ·have hno : no = some m:=congrArg Prod.fst h1
           have hx0 : x = 0:=congrArg Prod.snd h1
           subst hno hx0
           obtain ⟨ml,hml⟩ : ∃ ml,m.left.parts.length = ml:=⟨_,rfl⟩
           obtain ⟨mr,hmr⟩ : ∃ mr,m.right.parts.length = mr:=⟨_,rfl⟩
           obtain ⟨mlr,hmlr⟩ : ∃ mlr,m.left.rest = mlr:=⟨_,rfl⟩
           obtain ⟨mrr,hmrr⟩ : ∃ mrr,m.right.rest = mrr:=⟨_,rfl⟩
           obtain ⟨mx,hmx⟩ : ∃ mx,m.excl = mx:=⟨_,rfl⟩
           have hgo : (narR r q.right).1 = some m:=by rw [HXn.out]
           have hz : SmallN w6 w3.heap.size ⟨a2.AL,a2.cl,m.left⟩:=⟨hNm.l.mono HO5.out.calm.size,by
            have:=(patErr_form (narR_good hgo)).2.2
            show m.left.parts.length ≤ 4194304
            omega,fun z hz=>by
            have:=narR_each hgo (L:=1048576) (by decide) HSr.out.ls HSr.out.rs HQs.out.rs z hz
            omega⟩
           have HZ:=Lib.hid hz
           have HM:=Lib.hid (And.intro hml hmlr)
           unfold ruleV
           rw [hml,hmr,hmlr,hmrr,hmx]
           have hm2:=FiveB.new w6 (.bool mx) (.slice a2.AL ml a2.cl) (.bool mlr) (.slice a2.AR mr a2.cr) (.bool mrr) 44
           have m1:=hm2.c1
           have m2:=hm2.c2
           have HAl2 : Hid (Calm w6 ((w6.alloc (.cells #[.bool mx,.slice a2.AL ml a2.cl,.bool mlr,.slice a2.AR mr a2.cr,.bool mrr] 44)).alloc (.cells #[.slice a2.AL ml a2.cl,.bool mlr] 37))):=((Calm.refl _).alloc _).alloc _
           clear hm2 hml hmr hmlr hmrr hmx hgo hz hNm h1
           go_wp2_with (at_builtin;refine wpList_append_ps rfl (.tmp 58) (.tmp 61) rfl w3 _ (ys ++ [⟨a'.AL,a'.cl,q.left⟩]) [⟨a2.AL,a2.cl,m.left⟩] rfl (HO5.out.to (HC6.out.trans (((Calm.refl _).alloc _).alloc _))) _ 1 1 rfl rfl (read_newH ⟨a2.AL,a2.cl,m.left⟩ (by simp) HM.out.1 HM.out.2) (by rw [List.length_append,List.length_singleton];omega) ?_;intro v7 w7 hown7 hg7)
           go_roundw
           case rel=>exact ⟨k + 1,(ys ++ [⟨a'.AL,a'.cl,q.left⟩]) ++ [⟨a2.AL,a2.cl,m.left⟩],by omega,by go_num,Lib.hid (HH.out.hit HQi.out (by rw [HXn.out]) (n:=m) (by rw [HXn.out]) (x:=⟨a'.AL,a'.cl,q.left⟩) rfl HXe.out HAl.out HG5.out HO5.out (z:=⟨a2.AL,a2.cl,m.left⟩) rfl (HC6.out.trans HAl2.out) (HZ.out.calm HAl2.out) hg7 hown7)⟩
           case measure=>simp [intOf];omega)
       ·obtain rfl : k = L:=by omega
        have his : entHoles r (rs.drop (i + 1)) = some (ys.map (·.p)):=by
         have:=HH.out.is
         rw [List.take_of_length_le (by rw [HLs.out];exact Nat.le_refl _)] at this
         exact this
        have hgd:=entHoles_good (fun z hz=>HG.out z (List.mem_of_mem_drop hz)) his
        have hyl:=hgd.2
        rw [List.length_map,HLs.out] at hyl
        obtain ⟨HA,hac,rfl,hps⟩:=HH.out.reads (by omega)
        obtain ⟨N,hN⟩ : ∃ N,ys.length = N:=⟨_,rfl⟩
        obtain ⟨ps,hpe⟩ : ∃ ps,ys.map (·.p) = ps:=⟨_,rfl⟩
        have hpl : ps.length = N:=by rw [← hpe,List.length_map,hN]
        rw [hpe] at his hgd hps
        rw [hN] at hyl ⊢
        have HIs:=Lib.hid his
        have HPl:=Lib.hid hpl
        have hrg : ruleErr r = 0:=HG.out r (List.mem_of_getElem? HRi.out)
        have KRd : Hid (Calls Tryz.prog 15 #[.agg #[.slice a.AL nl a.cl,.bool lr],.slice HA N hac] wq fun e w'=>(∃ A3 c3 HA3 hc3,e = .returned (.agg #[.slice A3 nl c3,.bool lr,.slice HA3 (redL r.left ps).length hc3]) ∧ NewS w' wq.heap.size A3 c3 r.left.parts ∧ PatsN w' wq.heap.size HA3 hc3 (redL r.left ps)) ∧ Calm wq w'):=by
         have h2:=HRu3.out.calm HH.out.own.calm
         have:=reduce_c r.left ps a.AL a.cl HA N hac wq ⟨h2.left HSr.out.small,h2.lroom,h2.lcap⟩ hps hpl (ruleErr_twin.1 hrg).lp hgd.1
         unfold RedEnd at this
         rw [HNN.out.1,HNN.out.2.2.1] at this
         exact this
        obtain ⟨hs,hhs⟩ : ∃ hs,redL r.left ps = hs:=⟨_,rfl⟩
        rw [hhs] at KRd
        have HHs:=Lib.hid hhs
        obtain ⟨hn,hhn⟩ : ∃ hn,hs.length = hn:=⟨_,rfl⟩
        rw [hhn] at KRd
        have HHn:=Lib.hid hhn
        have b8:=HB8.out.calm HH.out.own.calm
        have d1:=b8.c1
        have d2:=b8.c2
        have HHc : Hid (Calm w3 wq):=HH.out.own.calm
        clear b8 his hgd hps hN hpe hpl hrg hhs hhn
        go_wp2_with fail
        refine KRd.out.mono ?_
        rintro e w5 ⟨⟨A3,c3,HA3,hc3,rfl,hN5,hP5⟩,hc5⟩
        have hhl : hs.length ≤ 4194304:=by
         have h1:=redL_len r.left ps
         rw [HHs.out,HPl.out] at h1
         omega
        obtain ⟨w6,hw6⟩ : ∃ w6,w6 = w5.alloc (.cells #[.slice A3 nl c3,.bool lr,.slice HA3 hn hc3] 48):=⟨_,rfl⟩
        have hc56 : Calm w5 w6:=by
         show Below _ _ _
         rw [hw6]
         exact (Calm.refl _).alloc _
        obtain ⟨vz,hvz⟩ : ∃ vz,void r.left hs = vz:=⟨_,rfl⟩
        have KVd : Hid (Calls Tryz.prog 16 #[.agg #[.slice A3 nl c3,.bool lr],.slice HA3 hn hc3] w6 fun e w'=>e = .returned (.bool vz) ∧ Calm w6 w'):=by
         have:=void_c r.left hs A3 c3 HA3 hc3 w6 ((hN5.calm hc56).u.toR HSr.out.small.lp HSr.out.small.ls) ((hP5.reads hhl).calm hc56)
         rw [HNN.out.1,HNN.out.2.2.1,HHn.out,hvz] at this
         exact this
        have HVz:=Lib.hid hvz
        have HN6 : Hid (NewS w6 wq.heap.size A3 c3 r.left.parts):=hN5.calm hc56
        have HP6 : Hid (PatsN w6 wq.heap.size HA3 hc3 hs):=hP5.calm hc56
        have HC6 : Hid (Calm wq w6):=hc5.trans hc56
        have HC5 : Hid (Calm wq w5):=hc5
        have g0 : w6.cell? ⟨w5.heap.size,0,none⟩ = some (.slice A3 nl c3):=by rw [hw6];simp [go_sem]
        have g1 : w6.cell? ⟨w5.heap.size,1,none⟩ = some (.bool lr):=by rw [hw6];simp [go_sem]
        have g2 : w6.cell? ⟨w5.heap.size,2,none⟩ = some (.slice HA3 hn hc3):=by rw [hw6];simp [go_sem]
        have hlt6 : w5.heap.size < w6.heap.size:=by rw [hw6];simp
        have HG6:=Lib.hid (And.intro g0 (And.intro g1 (And.intro g2 hlt6)))
        have HW6:=Lib.hid hw6
        clear hw6 hc56 hvz hN5 hP5 hc5 g0 g1 g2 hlt6
        go_wp2_with fail
        rw [← HW6.out]
        refine KVd.out.mono ?_
        rintro e w7 ⟨rfl,hc7⟩
        have HC7 : Hid (Calm wq w7):=HC6.out.trans hc7
        have HHl:=Lib.hid hhl
        have hHo : Hid (entHoles r (rs.drop (i + 1)) = some ps):=HIs
        cases vz with
        |true=>
         have h0 : leastLen r.left (redL r.left ps) = 0:=by
          rw [HHs.out]
          have:=HVz.out
          unfold void at this
          simpa using this
         have HRel : Hid (EntI w2 w7 u6 rs (i + 1) zs):=HI3.out.void HRi.out HNN.out.2.2.2.2 hHo.out h0 (HHc.out.trans HC7.out)
         clear hc7 h0
         go_wp2_with fail
         go_roundw
         case rel=>exact ⟨i + 1,zs,by omega,by go_num,HRel⟩
         case measure=>simp [intOf];omega
        |false=>
         have h0 : leastLen r.left (redL r.left ps) ≠ 0:=by
          rw [HHs.out]
          have:=HVz.out
          unfold void at this
          simpa using this
         have HL0:=Lib.hid h0
         have HB8w : Hid (FiveB w7 B8 (.bool false) (.slice a.AL nl a.cl) (.bool lr) (.slice a.AR nr a.cr) (.bool rr)):=HB8.out.calm (HHc.out.trans HC7.out)
         have KCp : Hid (∀ W,Calm w7 W → Calls Tryz.prog 17 #[.agg #[.slice a.AR nr a.cr,.bool rr]] W fun e w'=>(∃ A c,e = .returned (.agg #[.slice A nr c,.bool rr]) ∧ NewS w' W.heap.size A c r.right.parts) ∧ Calm W w'):=fun W hW=>by
          have h2:=HRu3.out.calm (HHc.out.trans (HC7.out.trans hW))
          have:=copy_c r.right a.AR a.cr W h2.rr
          unfold CopyEnd at this
          rw [HNN.out.2.1,HNN.out.2.2.2.1] at this
          exact this
         have g0:=Calm.at_ hc7 HG6.out.1 HG6.out.2.2.2
         have g1:=Calm.at_ hc7 HG6.out.2.1 HG6.out.2.2.2
         have g2:=Calm.at_ hc7 HG6.out.2.2.1 HG6.out.2.2.2
         have b3:=HB8w.out.c3
         have b4:=HB8w.out.c4
         have hlt7 : w5.heap.size < w7.heap.size:=Nat.lt_of_lt_of_le HG6.out.2.2.2 hc7.size
         have hlt8 : B8 < w7.heap.size:=HB8w.out.lt
         have HC67 : Hid (Calm w6 w7):=hc7
         clear hc7 h0
         go_wp2_with fail
         have HEp : Hid ((entOf r ps).hs = hs):=HHs.out
         have HEh : Hid ((entOf r ps).hs.length = hn):=by
          show _ = _
          rw [HEp.out]
          exact HHn.out
         have hszq : w2.heap.size ≤ wq.heap.size:=(HI3.out.own.calm.trans HHc.out).size
         have HK : Hid (∀ W : World,Calm w7 W → W.cell? ⟨w5.heap.size,0,none⟩ = some (.slice A3 nl c3) ∧ W.cell? ⟨w5.heap.size,1,none⟩ = some (.bool lr) ∧ W.cell? ⟨w5.heap.size,2,none⟩ = some (.slice HA3 hn hc3) ∧ W.cell? ⟨B8,3,none⟩ = some (.slice a.AR nr a.cr) ∧ W.cell? ⟨B8,4,none⟩ = some (.bool rr)):=fun W hW=>
          ⟨Calm.at_ hW g0 hlt7,Calm.at_ hW g1 hlt7,Calm.at_ hW g2 hlt7,Calm.at_ hW b3 hlt8,Calm.at_ hW b4 hlt8⟩
         have HSF : Hid (∀ W W' : World,Calm w7 W → W.grownBy W' u6.ownBlock → W'.cell? ⟨w5.heap.size,0,none⟩ = some (.slice A3 nl c3) ∧ W'.cell? ⟨w5.heap.size,1,none⟩ = some (.bool lr) ∧ W'.cell? ⟨w5.heap.size,2,none⟩ = some (.slice HA3 hn hc3) ∧ W'.cell? ⟨B8,3,none⟩ = some (.slice a.AR nr a.cr) ∧ W'.cell? ⟨B8,4,none⟩ = some (.bool rr)):=fun W W' hW hg=>by
          have hh1:=hg.block w5.heap.size (Nat.lt_of_lt_of_le hlt7 hW.size) (fun e=>by
           have h1:=HI3.out.own.blk_lt e
           have h2:=HHc.out.size
           have h3:=HC5.out.size
           omega)
          have hh2:=hg.block B8 (Nat.lt_of_lt_of_le hlt8 hW.size) HBne.out
          obtain ⟨k0,k1,k2,k3,k4⟩:=HK.out W hW
          exact ⟨(World.cell?_of_block (a:=⟨w5.heap.size,0,none⟩) hh1).trans k0,(World.cell?_of_block (a:=⟨w5.heap.size,1,none⟩) hh1).trans k1,(World.cell?_of_block (a:=⟨w5.heap.size,2,none⟩) hh1).trans k2,(World.cell?_of_block (a:=⟨B8,3,none⟩) hh2).trans k3,(World.cell?_of_block (a:=⟨B8,4,none⟩) hh2).trans k4⟩
         go_region_held3 (fun W=>W.cell? ⟨w5.heap.size,0,none⟩ = some (.slice A3 nl c3) ∧ W.cell? ⟨w5.heap.size,1,none⟩ = some (.bool lr) ∧ W.cell? ⟨w5.heap.size,2,none⟩ = some (.slice HA3 hn hc3) ∧ W.cell? ⟨B8,3,none⟩ = some (.slice a.AR nr a.cr) ∧ W.cell? ⟨B8,4,none⟩ = some (.bool rr))
          (first
           |exact HK.out _ (Calm.refl _)
           |exact HK.out _ (Below.drew (Calm.refl _))
           |exact HK.out _ hc78
           |exact HK.out _ (Below.drew hc78)
           |exact HK.out _ (hc78.alloc _)
           |exact HK.out _ (Below.drew (hc78.alloc _))
           |exact HSF.out _ _ (hc78.alloc _) hg9
           |exact HSF.out _ _ (Below.drew (hc78.alloc _)) hg9
           |exact HSF.out _ _ ((Below.drew hc78).alloc _) hg9
           |go_keep)
          (first
          |(go_at_call 17;first
            |(refine (KCp.out _ (Calm.refl _)).mono ?_;rintro e w8 ⟨⟨A9,c9,rfl,hN9⟩,hc8⟩;have hc78 : Calm w7 w8:=hc8;have HK8:=HK.out w8 hc78)
            |(refine (KCp.out _ (Below.drew (Calm.refl _))).mono ?_;rintro e w8 ⟨⟨A9,c9,rfl,hN9⟩,hc8⟩;have hc78 : Calm w7 w8:=(Below.drew (Calm.refl _)).trans hc8;have HK8:=HK.out w8 hc78))
          |(refine step_append_xs (enc:=encE) (K:=5) (T:=40) Tryz.underlying24 info_ent rfl (by decide) (by decide) encE_len encE_one rfl (.tmp 73) (.tmp 82) rfl w2 u6 zs [⟨A3,c3,A9,c9,HA3,hc3,entOf r ps⟩] (by simp [Act.eval,Act.put]) (HI3.out.own.to ((HHc.out.trans HC7.out).trans (hc78.trans (by first | exact (Calm.refl _).alloc _ | exact (Below.drew (Calm.refl _)).alloc _ | exact Below.drew ((Calm.refl _).alloc _) | exact (Below.drew (Below.drew (Calm.refl _))).alloc _ | exact (Below.drew ((Calm.refl _).alloc _)))))) _ 1 1 rfl rfl (read_newE ⟨A3,c3,A9,c9,HA3,hc3,entOf r ps⟩ rfl HNN.out.1 HNN.out.2.2.1 HNN.out.2.1 HNN.out.2.2.2.1 HEh.out) (by have:=HI3.out.few;omega) ?_;intro v9 w9 hown9 hg9))
         all_goals
          have HRel : Hid (EntI w2 w9 v9 rs (i + 1) (zs ++ [⟨A3,c3,A9,c9,HA3,hc3,entOf r ps⟩])):=
           HI3.out.add HRi.out HNN.out.2.2.2.2 hHo.out HL0.out rfl ((HHc.out.trans HC7.out).trans (hc78.trans (by first | exact (Calm.refl _).alloc _ | exact (Below.drew (Calm.refl _)).alloc _ | exact Below.drew ((Calm.refl _).alloc _) | exact (Below.drew (Below.drew (Calm.refl _))).alloc _ | exact (Below.drew ((Calm.refl _).alloc _))))) ⟨⟨((HN6.out.calm (HC67.out.trans (hc78.trans (by first | exact (Calm.refl _).alloc _ | exact (Below.drew (Calm.refl _)).alloc _ | exact Below.drew ((Calm.refl _).alloc _) | exact (Below.drew (Below.drew (Calm.refl _))).alloc _ | exact (Below.drew ((Calm.refl _).alloc _)))))).mono hszq),HSr.out.small.lp,HSr.out.small.ls⟩,⟨((hN9.calm (by first | exact (Calm.refl _).alloc _ | exact (Below.drew (Calm.refl _)).alloc _ | exact Below.drew ((Calm.refl _).alloc _) | exact (Below.drew (Below.drew (Calm.refl _))).alloc _ | exact (Below.drew ((Calm.refl _).alloc _)))).mono (Nat.le_trans hszq HC7.out.size)),HSr.out.small.rp,HSr.out.small.rs⟩,HEp.out ▸ ((HP6.out.calm (HC67.out.trans (hc78.trans (by first | exact (Calm.refl _).alloc _ | exact (Below.drew (Calm.refl _)).alloc _ | exact Below.drew ((Calm.refl _).alloc _) | exact (Below.drew (Below.drew (Calm.refl _))).alloc _ | exact (Below.drew ((Calm.refl _).alloc _)))))).mono hszq),by rw [HEp.out];exact HHl.out⟩ hg9 hown9
          go_wp2_with fail
          go_roundw
          case rel=>exact ⟨i + 1,zs ++ [⟨A3,c3,A9,c9,HA3,hc3,entOf r ps⟩],by omega,by go_num,HRel⟩
          case measure=>simp [intOf];omega
   ·obtain rfl : i = n:=by omega
    have hI:=HI.out
    rw [← HN.out] at hI
    obtain ⟨hes,A,c,rfl,h1,h2,h3⟩:=hI.reads
    have HE : Hid (entE rs = (zs.map (·.e),0)):=by
     show _ = _
     unfold entE
     rw [HX.out,if_neg (by decide),hes]
    obtain ⟨Z,hZ⟩ : ∃ Z,zs.length = Z:=⟨_,rfl⟩
    have HZ:=Lib.hid hZ
    have HR9:=Lib.hid (And.intro h3 (And.intro h1 h2))
    have HC9 : Hid (Calm w2 wr):=HI.out.own.calm
    rw [hZ]
    clear hI hes h1 h2 h3 hZ HI
    go_wp2_with fail
    go_ret2
    exact ⟨.inr ⟨by rw [HE.out],A,c,by rw [HE.out];simp only [List.length_map];rw [HZ.out];rfl,by rw [HE.out];exact HR9.out.1,by rw [HE.out];simp only [List.length_map];exact HR9.out.2.1,HR9.out.2.2⟩,HC2.out.trans HC9.out⟩
 ·have HE : Hid (entE rs = ([],x)):=by
   show _ = _
   unfold entE
   rw [HX.out,if_pos hx0]
  have hx1 : (x == 0) = false:=by rw [beq_eq_false_iff_ne];exact hx0
  have HX0:=Lib.hid hx0
  go_wp2_with fail
  go_ret2
  exact ⟨.inl (by rw [HE.out];exact ⟨rfl,HX0.out,rfl⟩),HC2.out⟩
end Go.Proofs.YthopphabeddnfaaGreatDoor
