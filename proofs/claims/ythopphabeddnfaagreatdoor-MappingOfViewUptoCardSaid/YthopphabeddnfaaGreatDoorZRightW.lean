/- Walk: an entry's right region. -/
import Derived.Deep.DeepCutAuto
import Derived.Deep.RegionHeld3
import Derived.Test.YthopphabeddnfaaGreatDoorZNarW
import Derived.Test.YthopphabeddnfaaGreatDoorZMapA
import Derived.Test.YthopphabeddnfaaGreatDoorZRegB
set_option linter.unusedVariables false
set_option linter.unusedSimpArgs false
namespace Go.Proofs.YthopphabeddnfaaGreatDoor
open Go Go.RowKit Sy

theorem five_set {w : World} {b : Nat} {z0 z1 z2 z3 z4 : Value} (h : FiveB w b z0 z1 z2 z3 z4) (u0 u1 u2 u3 u4 : Value) : FiveB (set5 w b u0 u1 u2 u3 u4) b u0 u1 u2 u3 u4:=by
 refine ⟨by simpa using h.lt,?_,?_,?_,?_,?_,fun o=>by simpa using h.fz o⟩
 ·rw [World.cell?_setCell_other _ _ _ _ (by simp),World.cell?_setCell_other _ _ _ _ (by simp),World.cell?_setCell_other _ _ _ _ (by simp),World.cell?_setCell_other _ _ _ _ (by simp)]
  exact World.cell?_setCell_same' _ _ _ (by rw [h.c0];rfl)
 ·rw [World.cell?_setCell_other _ _ _ _ (by simp),World.cell?_setCell_other _ _ _ _ (by simp),World.cell?_setCell_other _ _ _ _ (by simp)]
  exact World.cell?_setCell_same' _ _ _ (by rw [World.cell?_setCell_other _ _ _ _ (by simp),h.c1];rfl)
 ·rw [World.cell?_setCell_other _ _ _ _ (by simp),World.cell?_setCell_other _ _ _ _ (by simp)]
  exact World.cell?_setCell_same' _ _ _ (by rw [World.cell?_setCell_other _ _ _ _ (by simp),World.cell?_setCell_other _ _ _ _ (by simp),h.c2];rfl)
 ·rw [World.cell?_setCell_other _ _ _ _ (by simp)]
  exact World.cell?_setCell_same' _ _ _ (by rw [World.cell?_setCell_other _ _ _ _ (by simp),World.cell?_setCell_other _ _ _ _ (by simp),World.cell?_setCell_other _ _ _ _ (by simp),h.c3];rfl)
 ·exact World.cell?_setCell_same' _ _ _ (by rw [World.cell?_setCell_other _ _ _ _ (by simp),World.cell?_setCell_other _ _ _ _ (by simp),World.cell?_setCell_other _ _ _ _ (by simp),World.cell?_setCell_other _ _ _ _ (by simp),h.c4];rfl)
theorem five_drew (w : World) (T : TypeId) {v0 v1 v2 v3 v4 : Value} : FiveB (w.alloc (.cells #[v0,v1,v2,v3,v4] T)).drew w.heap.size v0 v1 v2 v3 v4:=(FiveB.new w _ _ _ _ _ _).calm (Below.drew (Calm.refl _))
theorem RuleN.set5 {w : World} {B b : Nat} {a : Pl} {r : Rule} (h : RuleN w B a r) (hb : b < B) (u0 u1 u2 u3 u4 : Value) : RuleN (Go.Proofs.YthopphabeddnfaaGreatDoor.set5 w b u0 u1 u2 u3 u4) B a r:=⟨h.l.set5 hb _ _ _ _ _,h.r.set5 hb _ _ _ _ _⟩
structure LineB (w2 wx : World) (b B : Nat) (a : Pl) (r : Rule) (v0 v1 v2 v3 v4 : Value) : Prop where
 calm : Calm w2 wx
 five : FiveB wx b v0 v1 v2 v3 v4
 new : RuleN wx B a r
 lo : w2.heap.size ≤ b
theorem lineB_new {w2 w5 : World} {B P : Nat} {a : Pl} {r : Rule} {v0 v1 v2 v3 v4 : Value} (hcy : Calm w2 w5) (hP : B ≤ P) (hn : RuleN w5 P a r) : LineB w2 (w5.alloc (.cells #[v0,v1,v2,v3,v4] 44)) w5.heap.size B a r v0 v1 v2 v3 v4:=
 ⟨hcy.alloc _,FiveB.new _ _ _ _ _ _ _,(hn.mono hP).calm ((Calm.refl _).alloc _),hcy.size⟩
theorem lineB_set {w2 w5 : World} {b B P : Nat} {a : Pl} {r : Rule} {z0 z1 z2 z3 z4 v0 v1 v2 v3 v4 : Value} (hz : FiveB w5 b z0 z1 z2 z3 z4) (hcy : Calm w2 w5) (h2 : w2.heap.size ≤ b) (hb : b < P) (hP : B ≤ P) (hn : RuleN w5 P a r) : LineB w2 (Go.Proofs.YthopphabeddnfaaGreatDoor.set5 w5 b v0 v1 v2 v3 v4) b B a r v0 v1 v2 v3 v4:=
 ⟨calm5 hcy h2 _ _ _ _ _,five_set hz _ _ _ _ _,(hn.set5 hb _ _ _ _ _).mono hP,h2⟩
end Go.Proofs.YthopphabeddnfaaGreatDoor
set_option linter.unusedVariables false
set_option linter.unusedSimpArgs false
namespace Go.Proofs.YthopphabeddnfaaGreatDoor
open Go Go.RowKit Sy

theorem narL_each {r n : Rule} {q : Pat} {L : Nat} (h : (narL r q).1 = some n) (hL : 1 ≤ L) (hl : ∀ x ∈ r.left.parts,x.length ≤ L) (hr : ∀ x ∈ r.right.parts,x.length ≤ L) (hq : ∀ x ∈ q.parts,x.length ≤ L) : ∀ x ∈ n.right.parts,x.length ≤ L + L:=by
 obtain ⟨_,_,_,m,hm,rfl,_,h2⟩:=narL_some h
 exact carry_each h2 hr (meet_each hm hl hq hL)
theorem OwnX.patsN {w0 wr : World} {A : Option Addr} {n c B : Nat} {l : List NewP} (h : OwnX encP 2 37 w0 wr (.slice A n c) l) (hB : B ≤ w0.heap.size) (he : ∀ y ∈ l,SmallN wr B y) : PatsN wr B A c (l.map (·.p)):=by
 rcases h.row encP_len with ⟨e,h0⟩ | ⟨g,c',e,h1,h2,h3,hr⟩
 ·subst h0
  obtain ⟨rfl,rfl,rfl⟩ : A = none ∧ n = 0 ∧ c = 0:=by simpa using e
  exact ⟨⟨[],rfl,.inl ⟨rfl,rfl⟩,fun x hx=>by cases hx⟩,Nat.zero_le _,by decide⟩
 ·obtain ⟨rfl,rfl,rfl⟩ : A = some ⟨g,0,none⟩ ∧ n = l.length ∧ c = c':=by simpa using e
  exact ⟨⟨l,rfl,.inr ⟨g,rfl,Nat.le_trans hB h3,hr⟩,he⟩,by rw [List.length_map];exact h1,h2⟩
theorem rightHs_snoc {r : Rule} {hs : List Pat} {p : Pat} : rightHs r (hs ++ [p]) = match rightHs r hs with
  |none=>none
  |some l=>if (narL r p).2 ≠ 0 then none else some (l ++ ((narL r p).1.map (·.right)).toList):=by
 rw [rightHs_app]
 rcases rightHs r hs with _ | l
 ·rfl
 ·simp only [rightHs]
  by_cases h : (narL r p).2 ≠ 0
  ·rw [if_pos h,if_pos h]
   rfl
  ·rw [if_neg h,if_neg h]
   simp
structure RgtI (w0 wr : World) (G : Nat) (r : Rule) (hs : List Pat) (k : Nat) (ys : List NewP) (A : Option Addr) (c : Nat) (v0 v1 : Value) : Prop where
 own : OwnX encP 2 37 w0 wr (.slice A ys.length c) ys
 is : rightHs r (hs.take k) = some (ys.map (·.p))
 each : ∀ y ∈ ys,SmallN wr (G + 1) y
 box : RgB wr G v0 v1 (.slice A ys.length c)
theorem RgtI.stop {w0 wr : World} {G : Nat} {r : Rule} {hs : List Pat} {k : Nat} {ys : List NewP} {A : Option Addr} {c : Nat} {v0 v1 : Value} (h : RgtI w0 wr G r hs k ys A c v0 v1) {p : Pat} (hp : hs[k]? = some p) (hx : (narL r p).2 ≠ 0) : rightHs r hs = none:=by
 have h1 : rightHs r (hs.take (k + 1)) = none:=by
  rw [take_snoc hp,rightHs_snoc,h.is]
  simp only
  rw [if_pos hx]
 have:=rightHs_none h1 (hs.drop (k + 1))
 rw [List.take_append_drop] at this
 exact this
theorem RgtI.miss {w0 wr w2 : World} {G : Nat} {r : Rule} {hs : List Pat} {k : Nat} {ys : List NewP} {A : Option Addr} {c : Nat} {v0 v1 : Value} (h : RgtI w0 wr G r hs k ys A c v0 v1) {p : Pat} (hp : hs[k]? = some p) (hx : (narL r p).2 = 0) (hn : (narL r p).1 = none) (hc : Calm wr w2) : RgtI w0 w2 G r hs (k + 1) ys A c v0 v1:=by
 refine ⟨h.own.to hc,?_,fun y hy=>(h.each y hy).calm hc,h.box.calm hc⟩
 rw [take_snoc hp,rightHs_snoc,h.is]
 simp only
 rw [if_neg (by simpa using hx),hn]
 simp
theorem RgtI.hit {w0 wr w2 w3 : World} {G : Nat} {r n : Rule} {hs : List Pat} {k : Nat} {ys : List NewP} {A A2 : Option Addr} {c c2 n2 : Nat} {v0 v1 u : Value} {x : NewP} (h : RgtI w0 wr G r hs k ys A c v0 v1) (hGw : w0.heap.size ≤ G) {p : Pat} (hp : hs[k]? = some p) (hx : (narL r p).2 = 0) (hn : (narL r p).1 = some n) (hxp : x.p = n.right) (hc : Calm wr w2) (hxs : SmallN w2 (G + 1) x) (hg : w2.grownBy w3 (Value.slice A ys.length c).ownBlock) (hown : OwnX encP 2 37 w0 w3 (.slice A2 n2 c2) (ys ++ [x])) (hb : RgB w3 G v0 v1 u) : RgtI w0 (w3.setCell ⟨G,2,none⟩ (.slice A2 n2 c2)) G r hs (k + 1) (ys ++ [x]) A2 c2 v0 v1:=by
 have hn2 : n2 = (ys ++ [x]).length:=by
  rcases hown.row encP_len with ⟨_,e0⟩ | ⟨g,c',e,_⟩
  ·exact absurd (congrArg List.length e0) (by simp)
  ·simp only [Value.slice.injEq] at e
   exact e.2.1
 subst hn2
 refine ⟨hown.setX _ hGw (hown.kindne (by decide) hb.kind),?_,fun y hy=>?_,hb.put2 _⟩
 ·rw [take_snoc hp,rightHs_snoc,h.is]
  simp only
  rw [if_neg (by simpa using hx),hn,List.map_append]
  simp [hxp]
 ·refine SmallN.set ?_ _ (Nat.lt_succ_self G)
  rcases List.mem_append.1 hy with hy | hy
  ·exact ((h.each y hy).calm hc).own (by decide) (h.own.to hc).own hg
  ·rw [List.mem_singleton] at hy
   subst hy
   exact hxs.own (by decide) (h.own.to hc).own hg
def RightEnd (z : NewE) (B : Nat) (e : Ending) (w' : World) : Prop:=match rightHs z.e.rule z.e.hs with
 |none=>e = .returned (.tuple #[.agg #[.slice none 0 0,.bool false,.slice none 0 0],.int .i64 72])
 |some ks=>∃ KA kc,e = .returned (.tuple #[.agg #[.slice z.RA z.e.right.parts.length z.rc,.bool z.e.right.rest,.slice KA ks.length kc],.int .i64 0]) ∧ PatsN w' B KA kc ks

set_option maxRecDepth 100000 in
set_option maxHeartbeats 16000000 in
theorem right_c (z : NewE) (nl nr hn : Nat) (lr rr : Bool) (HA : Option Addr) (w : World) (h : EntU w z) (hs : SmallE z.e) (hr : ruleErr z.e.rule = 0) (hg : gErr z.e.reg = 0) (hnl : z.e.left.parts.length = nl) (hnr : z.e.right.parts.length = nr) (hhn : z.e.hs.length = hn) (hlr : z.e.left.rest = lr) (hrr : z.e.right.rest = rr) (hHA : z.HA = HA) :
  Calls Tryz.prog 19 #[entV z.LA z.RA HA nl z.lc nr z.rc hn z.hc lr rr] w fun e w'=>RightEnd z w.heap.size e w' ∧ Calm w w':=by
 obtain ⟨w1,hw1⟩ : ∃ w1,w1 = (w.alloc (.cells #[.slice z.LA nl z.lc,.bool lr,.slice z.RA nr z.rc,.bool rr,.slice HA hn z.hc] 40)).alloc (.cells #[.slice none 0 0,.bool false,.slice none 0 0] 48):=⟨_,rfl⟩
 have hc1 : Calm w w1:=by rw [hw1];exact ((Calm.refl w).alloc _).alloc _
 have hb : FiveB w1 w.heap.size (.slice z.LA nl z.lc) (.bool lr) (.slice z.RA nr z.rc) (.bool rr) (.slice HA hn z.hc):=by
  rw [hw1]
  exact (FiveB.new w _ _ _ _ _ _).calm ((Calm.refl _).alloc _)
 have hz : ThreeB w1 (w.heap.size + 1) (.slice none 0 0) (.bool false) (.slice none 0 0):=by
  rw [hw1]
  have:=ThreeB.new (w.alloc (.cells #[.slice z.LA nl z.lc,.bool lr,.slice z.RA nr z.rc,.bool rr,.slice HA hn z.hc] 40)) (.slice none 0 0) (.bool false) (.slice none 0 0) 48
  simpa using this
 have hsR : SmallR z.e.rule:=⟨by have:=hs.lp;show z.e.left.parts.length ≤ _;omega,fun s hs'=>by have:=hs.ls s hs';omega,by have:=hs.rp;show z.e.right.parts.length ≤ _;omega,fun s hs'=>by have:=hs.rs s hs';omega⟩
 have h64 : hn ≤ 64:=by
  have:=(gErr_zero hg).2.2
  rw [← hhn]
  exact this
 have KLn : Hid (∀ W,Calls Tryz.prog 25 #[entV z.LA z.RA HA nl z.lc nr z.rc hn z.hc lr rr] W fun e w'=>e = .returned (.agg #[.bool false,.slice z.LA nl z.lc,.bool lr,.slice z.RA nr z.rc,.bool rr]) ∧ Calm W w'):=fun W=>line_c _ _ _ _ _ _ _ _ _ _ _ W
 have KNL : Hid (∀ (p : Pat) (Ak : Option Addr) (pn ck : Nat) (pr : Bool) (W : World),Calm w1 W → PatA W Ak ck p → p.parts.length = pn → p.rest = pr → Calls Tryz.prog 35 #[.agg #[.bool false,.slice z.LA nl z.lc,.bool lr,.slice z.RA nr z.rc,.bool rr],.agg #[.slice Ak pn ck,.bool pr]] W fun e w'=>NarEnd (narL z.e.rule p) W.heap.size e w' ∧ Calm W w'):=fun p Ak pn ck pr W hW hp hpn hpr=>by
  have hu:=h.calm (hc1.trans hW)
  have:=nleft_c z.e.rule p z.pl pn ck pr Ak W ⟨hu.l.r.toU,hu.r.r.toU,hu.l.room,hu.r.room,hu.l.cap,hu.r.cap⟩ hsR hp hpn hpr
  unfold ruleV Ent.rule NewE.pl at this
  simp only [hnl,hnr,hlr,hrr] at this
  exact this
 have HGood : Hid (∀ p ∈ z.e.hs,patErr p = 0):=(gErr_zero hg).2.1
 have HRu : Hid (ruleErr z.e.rule = 0):=hr
 have HSm:=Lib.hid hs
 have HU:=Lib.hid (h.calm hc1)
 have HHA:=Lib.hid hHA
 have HD:=Lib.hid (And.intro hnr (And.intro hhn hrr))
 have HW:=Lib.hid hw1
 have HC:=Lib.hid hc1
 have HB:=Lib.hid hb
 have HZ:=Lib.hid hz
 have hsz : w.heap.size + 1 < w1.heap.size:=hz.lt
 have b0:=hb.c0
 have b1:=hb.c1
 have b2:=hb.c2
 have b3:=hb.c3
 have b4:=hb.c4
 obtain ⟨wG,hwG⟩ : ∃ wG,wG = w1.alloc (.cells #[.slice z.RA nr z.rc,.bool rr,.slice none 0 0] 48):=⟨_,rfl⟩
 have hcG : Calm w1 wG:=by rw [hwG];exact (Calm.refl _).alloc _
 have hgb : RgB wG w1.heap.size (.slice z.RA nr z.rc) (.bool rr) (.slice none 0 0):=by rw [hwG];exact RgB.new w1 _ _ _
 have hG1 : w1.heap.size + 1 = wG.heap.size:=by rw [hwG];simp
 have g4:=(hb.calm hcG).c4
 have HWG:=Lib.hid hwG
 have HCG:=Lib.hid hcG
 have HGB:=Lib.hid hgb
 clear hw1 hc1 hb hz hHA h hs hr hg hnl hnr hhn hlr hrr hsR hwG hcG hgb
 go_enter Tryz.func19,Tryz.ntmps19
 rw [HW.out] at b0 b1 b2 b3 b4 hsz
 rw [HWG.out,HW.out] at g4
 go_wp2_with fail
 rw [← HW.out,← HWG.out]
 rw [← HW.out] at hsz
 obtain ⟨G,hG⟩ : ∃ G,w1.heap.size = G:=⟨_,rfl⟩
 rw [hG] at HGB hG1
 have hG2 : w.heap.size + 1 + 1 = G:=by rw [← hG,HW.out];simp
 rw [hG2]
 clear hG2
 have HGe:=Lib.hid hG
 clear b0 b1 b2 b3 b4 g4 hG
 go_loopw [16] (fun u wr=>∃ (k : Nat) (ys : List NewP) (A9 : Option Addr) (c9 : Nat),k ≤ hn ∧ u = .int .i64 k ∧ Hid (ys.length ≤ k) ∧ Hid (RgtI w1 wr G z.e.rule z.e.hs k ys A9 c9 (.slice z.RA nr z.rc) (.bool rr))) (fun u _=>hn - (intOf u).toNat)
 case atStart=>exact ⟨0,[],none,0,Nat.zero_le _,rfl,Nat.le_refl _,⟨OwnX.nil HCG.out,rfl,fun y hy=>(by cases hy),HGB.out⟩⟩
 case round=>
  obtain ⟨k,ys,A9,c9,hk,rfl,HL,HI⟩:=hrel
  obtain ⟨wq,rfl⟩ : ∃ wq,wq = wr:=⟨_,rfl⟩
  have HCq : Hid (Calm w1 wq):=HI.out.own.calm
  by_cases hlt : k < hn
  ·obtain ⟨bb,o,p,Ak,ck,hA1,hbb,hp,h1,h2,h3,h5,h4⟩:=(HU.out.calm HCq.out).h.get (k:=k) (by rw [HD.out.2.1];exact hlt)
   obtain rfl : HA = some ⟨bb,o,none⟩:=HHA.out.symm.trans hA1
   obtain ⟨pn,hpn⟩ : ∃ pn,p.parts.length = pn:=⟨_,rfl⟩
   obtain ⟨pr,hpr⟩ : ∃ pr,p.rest = pr:=⟨_,rfl⟩
   rw [hpn] at h1
   rw [hpr] at h2
   have HP:=Lib.hid hp
   have HPa : Hid (PatA wq Ak ck p):=⟨h4,h3,h5⟩
   have HPn:=Lib.hid (And.intro hpn hpr)
   obtain ⟨wb,hwb⟩ : ∃ wb,wb = wq.alloc (.cells #[.slice Ak pn ck,.bool pr] 37):=⟨_,rfl⟩
   have HCb : Hid (Calm wq wb):=by
    show Below _ _ _
    rw [hwb]
    exact (Calm.refl _).alloc _
   obtain ⟨HB,hHB⟩ : ∃ HB,wq.heap.size = HB:=⟨_,rfl⟩
   have htb : TwoB wb HB (.slice Ak pn ck) (.bool pr):=by
    rw [hwb,← hHB]
    exact TwoB.new wq _ _ _
   have HTb:=Lib.hid htb
   have HSX : Hid (∀ W : World,Calm wb W → W.cell? ⟨w.heap.size,0,none⟩ = some (.slice z.LA nl z.lc) ∧ W.cell? ⟨w.heap.size,1,none⟩ = some (.bool lr) ∧ W.cell? ⟨w.heap.size,2,none⟩ = some (.slice z.RA nr z.rc) ∧ W.cell? ⟨w.heap.size,3,none⟩ = some (.bool rr) ∧ W.cell? ⟨w.heap.size,4,none⟩ = some (.slice (some ⟨bb,o,none⟩) hn z.hc) ∧ W.cell? ⟨HB,0,none⟩ = some (.slice Ak pn ck) ∧ W.cell? ⟨HB,1,none⟩ = some (.bool pr)):=fun W hW=>by
    have b:=(‹Hid (FiveB w1 w.heap.size _ _ _ _ _)›.out.calm (HCq.out.trans HCb.out)).calm hW
    have q:=htb.calm hW
    exact ⟨b.c0,b.c1,b.c2,b.c3,b.c4,q.c0,q.c1⟩
   have KN : Hid (∀ W,Calm wb W → Calls Tryz.prog 35 #[.agg #[.bool false,.slice z.LA nl z.lc,.bool lr,.slice z.RA nr z.rc,.bool rr],.agg #[.slice Ak pn ck,.bool pr]] W fun e w'=>NarEnd (narL z.e.rule p) W.heap.size e w' ∧ Calm W w'):=fun W hW=>KNL.out p Ak pn ck pr W (HCq.out.trans (HCb.out.trans hW)) ((HPa.out.calm HCb.out).calm hW) hpn hpr
   have HWb:=Lib.hid hwb
   have HHB:=Lib.hid hHB
   have hsq : w1.heap.size ≤ wb.heap.size:=(HCq.out.trans HCb.out).size
   clear hp h3 h4 h5 hpn hpr hwb hHB htb
   go_upto_region 5 with (fail)
   rw [← HWb.out,HHB.out]
   obtain ⟨⟨o',x⟩,hX⟩ : ∃ X,narL z.e.rule p = X:=⟨_,rfl⟩
   rw [hX] at KN
   have HX:=Lib.hid hX
   clear h1 h2 hX
   rcases o' with _ | m
   ·have KN1 : Hid (∀ W,Calm wb W → Calls Tryz.prog 35 #[.agg #[.bool false,.slice z.LA nl z.lc,.bool lr,.slice z.RA nr z.rc,.bool rr],.agg #[.slice Ak pn ck,.bool pr]] W fun e w'=>e = .returned (.tuple #[.agg #[.bool false,.slice none 0 0,.bool false,.slice none 0 0,.bool false],.bool false,.int .i64 x]) ∧ Calm W w'):=fun W hW=>(KN.out W hW).mono fun e w' h=>by
     obtain ⟨h1,h2⟩:=h
     refine ⟨?_,h2⟩
     rcases h1 with ⟨_,h1⟩ | ⟨m,a2,h1,_⟩
     ·exact h1
     ·cases h1
    clear KN
    go_cut [8,9] (fun s u wx=>s = .bool false ∧ u = .int .i64 x ∧ Hid (Calm wb wx))
    case first=>
     go_region_held3 (fun W=>W.cell? ⟨w.heap.size,0,none⟩ = some (.slice z.LA nl z.lc) ∧ W.cell? ⟨w.heap.size,1,none⟩ = some (.bool lr) ∧ W.cell? ⟨w.heap.size,2,none⟩ = some (.slice z.RA nr z.rc) ∧ W.cell? ⟨w.heap.size,3,none⟩ = some (.bool rr) ∧ W.cell? ⟨w.heap.size,4,none⟩ = some (.slice (some ⟨bb,o,none⟩) hn z.hc) ∧ W.cell? ⟨HB,0,none⟩ = some (.slice Ak pn ck) ∧ W.cell? ⟨HB,1,none⟩ = some (.bool pr))
      (first
       |with_reducible exact HSX.out _ (calm5 hcy hcx.size _ _ _ _ _)
       |with_reducible exact HSX.out _ (calm5 hcy (Nat.le_refl _) _ _ _ _ _)
       |with_reducible exact HSX.out _ hcy
       |with_reducible exact HSX.out _ (hcy.alloc _)
       |with_reducible exact HSX.out _ hcx
       |with_reducible exact HSX.out _ (hcx.alloc _)
       |with_reducible exact HSX.out _ (Calm.refl _)
       |with_reducible exact HSX.out _ (Below.drew (Calm.refl _))
       |with_reducible exact HSX.out _ (Below.drew ((Calm.refl _).alloc _))
       |with_reducible exact HSX.out _ ((Calm.refl _).alloc _)
       |go_keep)
      (first
       |(go_at_call 25;refine (KLn.out _).mono ?_;rintro e w4 ⟨rfl,hc4⟩;have hcx : Calm wb w4:=Calm.trans (by first | exact Below.drew (Calm.refl _) | exact Below.drew ((Calm.refl _).alloc _) | exact (Calm.refl _).alloc _ | exact Calm.refl _) hc4)
       |(go_at_call 35;refine (KN1.out _ (hcx.trans (by first | exact Calm.refl _ | exact (Calm.refl _).alloc _))).mono ?_;rintro e w5 ⟨rfl,hc5⟩;have hcy : Calm wb w5:=Calm.trans (hcx.trans (by first | exact Calm.refl _ | exact (Calm.refl _).alloc _)) hc5;(first | (with_reducible have hZ5 : FiveB w5 w4.heap.size (.bool false) (.slice none 0 0) (.bool false) (.slice none 0 0) (.bool false):=FiveB.calm (FiveB.new w4 _ _ _ _ _ _) hc5) | (with_reducible have hZ5 : FiveB w5 wb.heap.size (.bool false) (.slice none 0 0) (.bool false) (.slice none 0 0) (.bool false):=FiveB.calm (FiveB.calm (five_drew wb _) hc4) hc5) | skip);try (have z0:=hZ5.c0;have z1:=hZ5.c1;have z2:=hZ5.c2;have z3:=hZ5.c3;have z4:=hZ5.c4;have f0:=hZ5.fz 0;have f1:=hZ5.fz 1;have f2:=hZ5.fz 2;have f3:=hZ5.fz 3;have f4:=hZ5.fz 4)))
     all_goals
      go_wp2_with fail
      go_meet
      case rel=>
       first
        |(refine ⟨rfl,rfl,Lib.hid ?_⟩;with_reducible exact hcy.alloc _)
        |(refine ⟨rfl,rfl,Lib.hid ?_⟩;with_reducible exact hcy)
        |(refine ⟨rfl,rfl,Lib.hid ?_⟩;with_reducible exact calm5 hcy hcx.size _ _ _ _ _)
        |(refine ⟨rfl,rfl,Lib.hid ?_⟩;with_reducible exact calm5 hcy (Nat.le_refl _) _ _ _ _ _)
    case rest=>
     obtain ⟨rfl,rfl,HR⟩:=hcut
     have HCx : Hid (Calm w1 wc):=HCq.out.trans (HCb.out.trans HR.out)
     by_cases hx0 : x = 0
     ·subst hx0
      have HI2:=HI.out.miss HP.out (by rw [HX.out]) (by rw [HX.out]) (HCb.out.trans HR.out)
      have HI3:=Lib.hid HI2
      go_wp2_with fail
      go_roundw
      case rel=>exact ⟨k + 1,ys,A9,c9,by omega,by go_num,Nat.le_succ_of_le HL.out,HI3.out⟩
      case measure=>simp [intOf];omega
     ·have hx1 : (x == 0) = false:=by rw [beq_eq_false_iff_ne];exact hx0
      have HN : Hid (rightHs z.e.rule z.e.hs = none):=HI.out.stop HP.out (by rw [HX.out];exact hx0)
      have h3:=HZ.out.calm HCx.out
      have z0:=h3.c0
      have z1:=h3.c1
      have z2:=h3.c2
      have f0:=h3.fz 0
      have f1:=h3.fz 1
      have f2:=h3.fz 2
      have HC8 : Hid (∀ u0 u1 u2,Calm w (set3 wc (w.heap.size + 1) u0 u1 u2)):=fun u0 u1 u2=>calm3' (HC.out.trans HCx.out) (by omega) _ _ _
      clear h3 hx0
      go_wp2_with fail
      refine bodyPost_ret (v:=.tuple #[.agg #[.slice none 0 0,.bool false,.slice none 0 0],.int .i64 72]) ?_ rfl ⟨by show RightEnd _ _ _ _;unfold RightEnd;rw [HN.out],HC8.out _ _ _⟩
      rw [results_cell_slot rfl]
      go_simp
   ·obtain ⟨rfl,hme⟩ : x = 0 ∧ m.excl = false:=by
     have h1 : (narL z.e.rule p).1 = some m:=by rw [HX.out]
     obtain ⟨_,_,g3,m',_,rfl,_,_⟩:=narL_some h1
     rw [HX.out] at g3
     exact ⟨g3,rfl⟩
    obtain ⟨ml,hml⟩ : ∃ ml,m.left.parts.length = ml:=⟨_,rfl⟩
    obtain ⟨mr,hmr⟩ : ∃ mr,m.right.parts.length = mr:=⟨_,rfl⟩
    obtain ⟨tl,htl⟩ : ∃ tl,m.left.rest = tl:=⟨_,rfl⟩
    obtain ⟨tr,htr⟩ : ∃ tr,m.right.rest = tr:=⟨_,rfl⟩
    have KN1 : Hid (∀ W,Calm wb W → Calls Tryz.prog 35 #[.agg #[.bool false,.slice z.LA nl z.lc,.bool lr,.slice z.RA nr z.rc,.bool rr],.agg #[.slice Ak pn ck,.bool pr]] W fun e w'=>(∃ a2,e = .returned (.tuple #[.agg #[.bool false,.slice a2.AL ml a2.cl,.bool tl,.slice a2.AR mr a2.cr,.bool tr],.bool true,.int .i64 0]) ∧ RuleN w' W.heap.size a2 m) ∧ Calm W w'):=fun W hW=>(KN.out W hW).mono fun e w' h=>by
     obtain ⟨h1,h2⟩:=h
     refine ⟨?_,h2⟩
     rcases h1 with ⟨h1,_⟩ | ⟨m',a2,h1,h3,h4⟩
     ·cases h1
     ·obtain rfl : m = m':=by simpa using h1
      refine ⟨a2,?_,h4⟩
      rw [h3]
      unfold ruleV
      rw [hme,hml,hmr,htl,htr]
    have HM:=Lib.hid (And.intro hmr htr)
    have HMs : Hid (m.right.parts.length ≤ 4194304 ∧ ∀ l ∈ m.right.parts,l.length ≤ 4194304):=by
     have h1 : (narL z.e.rule p).1 = some m:=by rw [HX.out]
     have h12:=patErr_len (ruleErr_twin.1 (narL_good h1)).rp
     refine ⟨by omega,fun l hl=>?_⟩
     have:=narL_each h1 (L:=250) (by decide) HSm.out.ls HSm.out.rs (HSm.out.h p (List.mem_of_getElem? HP.out)).2 l hl
     omega
    clear KN hme hml hmr htl htr
    go_cut [7,8,9] (fun s t u wx=>∃ B10 a2,s = .pointer (some ⟨B10,0,none⟩) ∧ t = .bool true ∧ u = .int .i64 0 ∧ Hid (LineB wb wx B10 wb.heap.size a2 m (.bool false) (.slice a2.AL ml a2.cl) (.bool tl) (.slice a2.AR mr a2.cr) (.bool tr)))
    case first=>
     go_region_held3 (fun W=>W.cell? ⟨w.heap.size,0,none⟩ = some (.slice z.LA nl z.lc) ∧ W.cell? ⟨w.heap.size,1,none⟩ = some (.bool lr) ∧ W.cell? ⟨w.heap.size,2,none⟩ = some (.slice z.RA nr z.rc) ∧ W.cell? ⟨w.heap.size,3,none⟩ = some (.bool rr) ∧ W.cell? ⟨w.heap.size,4,none⟩ = some (.slice (some ⟨bb,o,none⟩) hn z.hc) ∧ W.cell? ⟨HB,0,none⟩ = some (.slice Ak pn ck) ∧ W.cell? ⟨HB,1,none⟩ = some (.bool pr))
      (first
       |with_reducible exact HSX.out _ (calm5 hcy hcx.size _ _ _ _ _)
       |with_reducible exact HSX.out _ (calm5 hcy (Nat.le_refl _) _ _ _ _ _)
       |with_reducible exact HSX.out _ hcy
       |with_reducible exact HSX.out _ (hcy.alloc _)
       |with_reducible exact HSX.out _ hcx
       |with_reducible exact HSX.out _ (hcx.alloc _)
       |with_reducible exact HSX.out _ (Calm.refl _)
       |with_reducible exact HSX.out _ (Below.drew (Calm.refl _))
       |with_reducible exact HSX.out _ (Below.drew ((Calm.refl _).alloc _))
       |with_reducible exact HSX.out _ ((Calm.refl _).alloc _)
       |go_keep)
      (first
       |(go_at_call 25;refine (KLn.out _).mono ?_;rintro e w4 ⟨rfl,hc4⟩;have hcx : Calm wb w4:=Calm.trans (by first | exact Below.drew (Calm.refl _) | exact Below.drew ((Calm.refl _).alloc _) | exact (Calm.refl _).alloc _ | exact Calm.refl _) hc4)
       |(go_at_call 35;refine (KN1.out _ (hcx.trans (by first | exact Calm.refl _ | exact (Calm.refl _).alloc _))).mono ?_;rintro e w5 ⟨⟨a2,rfl,hN5⟩,hc5⟩;have hcy : Calm wb w5:=Calm.trans (hcx.trans (by first | exact Calm.refl _ | exact (Calm.refl _).alloc _)) hc5;(first | (with_reducible have hZ5 : FiveB w5 w4.heap.size (.bool false) (.slice none 0 0) (.bool false) (.slice none 0 0) (.bool false):=FiveB.calm (FiveB.new w4 _ _ _ _ _ _) hc5) | (with_reducible have hZ5 : FiveB w5 wb.heap.size (.bool false) (.slice none 0 0) (.bool false) (.slice none 0 0) (.bool false):=FiveB.calm (FiveB.calm (five_drew wb _) hc4) hc5) | skip);try (have z0:=hZ5.c0;have z1:=hZ5.c1;have z2:=hZ5.c2;have z3:=hZ5.c3;have z4:=hZ5.c4;have f0:=hZ5.fz 0;have f1:=hZ5.fz 1;have f2:=hZ5.fz 2;have f3:=hZ5.fz 3;have f4:=hZ5.fz 4)))
     all_goals
      have hs7:=hc4.size
      have hs8:=hcx.size
      have hs9:=hc5.size
      simp [go_sem] at hs7
      go_wp2_with fail
      go_meet
      case rel=>
       first
        |(refine ⟨_,a2,rfl,rfl,rfl,Lib.hid ?_⟩;with_reducible exact lineB_new hcy (by omega) hN5)
        |(refine ⟨_,a2,rfl,rfl,rfl,Lib.hid ?_⟩;with_reducible exact lineB_set hZ5 hcy hs8 (by simp [go_sem]) (by simp [go_sem];omega) hN5)
        |(refine ⟨_,a2,rfl,rfl,rfl,Lib.hid ?_⟩;with_reducible exact lineB_set hZ5 hcy (Nat.le_refl _) (by omega) (by omega) hN5)
    case rest=>
     obtain ⟨B10,a2,rfl,rfl,rfl,HR⟩:=hcut
     have HCx : Hid (Calm wq wc):=HCb.out.trans HR.out.calm
     have d3:=HR.out.five.c3
     have d4:=HR.out.five.c4
     have HSn : Hid (SmallN wc (G + 1) ⟨a2.AR,a2.cr,m.right⟩):=⟨HR.out.new.r.mono (by have:=HGB.out.lt;have:=HCG.out.size;have:=HCq.out.size;have:=HI.out.box.lt;have:=HCb.out.size;omega),HMs.out.1,HMs.out.2⟩
     have hbx:=HI.out.box.calm HCx.out
     have e2:=hbx.c2
     have HBx:=Lib.hid hbx
     have hyl:=HL.out
     clear hbx
     go_wp2_with (at_builtin;refine wpList_append_ps rfl (.tmp 33) (.tmp 36) rfl w1 _ ys [⟨a2.AR,a2.cr,m.right⟩] rfl (HI.out.own.to (HCx.out.alloc _)) _ 1 1 rfl rfl (read_newH ⟨a2.AR,a2.cr,m.right⟩ rfl HM.out.1 HM.out.2) (by omega) ?_;intro v7 w7 hown7 hg7;obtain ⟨A7,c7,hv7⟩:=hown7.len_shape;subst hv7;have hR7:=(HBx.out.calm ((Calm.refl _).alloc (.cells #[.slice a2.AR mr a2.cr,.bool tr] 37))).block (hg7.block G (Nat.lt_of_lt_of_le HBx.out.lt ((Calm.refl _).alloc _).size) (HI.out.own.kindne (by decide) HI.out.box.kind));have hP72:=hR7.c2;have hP7f:=hR7.f 2)
     go_roundw
     case rel=>
      have hI9:=HI.out.hit (Nat.le_of_eq HGe.out) HP.out (by rw [HX.out]) (n:=m) (by rw [HX.out]) (x:=⟨a2.AR,a2.cr,m.right⟩) rfl (HCx.out.alloc _) (HSn.out.calm ((Calm.refl _).alloc _)) hg7 hown7 hR7
      rw [show (ys ++ [(⟨a2.AR,a2.cr,m.right⟩ : NewP)]).length = ys.length + 1 from by simp] at hI9
      exact ⟨k + 1,ys ++ [(⟨a2.AR,a2.cr,m.right⟩ : NewP)],A7,c7,by omega,by go_num,by show _ ≤ _;rw [List.length_append,List.length_singleton];omega,Lib.hid hI9⟩
     case measure=>simp [intOf];omega
  ·obtain rfl : k = hn:=by omega
   have his : rightHs z.e.rule z.e.hs = some (ys.map (·.p)):=by
    have:=HI.out.is
    rw [List.take_of_length_le (by rw [HD.out.2.1];exact Nat.le_refl _)] at this
    exact this
   have HIs:=Lib.hid his
   have h3:=HZ.out.calm HCq.out
   have z0:=h3.c0
   have z1:=h3.c1
   have z2:=h3.c2
   have f0:=h3.fz 0
   have f1:=h3.fz 1
   have f2:=h3.fz 2
   have hbx:=HI.out.box
   have e0:=hbx.c0
   have e1:=hbx.c1
   have e2:=hbx.c2
   have HPN : Hid (∀ u0 u1 u2,PatsN (set3 wq (w.heap.size + 1) u0 u1 u2) w.heap.size A9 c9 (ys.map (·.p))):=fun u0 u1 u2=>
    ((HI.out.own.patsN (B:=w1.heap.size) (Nat.le_refl _) (fun y hy=>(HI.out.each y hy).mono (by rw [HGe.out];omega))).set3 (by omega) _ _ _).mono (by omega)
   have HC8 : Hid (∀ u0 u1 u2,Calm w (set3 wq (w.heap.size + 1) u0 u1 u2)):=fun u0 u1 u2=>calm3' (HC.out.trans HCq.out) (by omega) _ _ _
   obtain ⟨N,hN⟩ : ∃ N,ys.length = N:=⟨_,rfl⟩
   rw [hN] at e2
   have HNe:=Lib.hid hN
   clear h3 hbx his hN
   go_wp2_with fail
   refine bodyPost_ret (v:=.tuple #[.agg #[.slice z.RA nr z.rc,.bool rr,.slice A9 N c9],.int .i64 0]) ?_ rfl ⟨by
    show RightEnd _ _ _ _
    unfold RightEnd
    rw [HIs.out]
    exact ⟨A9,c9,by rw [HD.out.1,HD.out.2.2,List.length_map,HNe.out],HPN.out _ _ _⟩,HC8.out _ _ _⟩
   rw [results_cell_slot rfl]
   go_simp
end Go.Proofs.YthopphabeddnfaaGreatDoor
