/- Walk: the reference's Check of a mapping. -/
import Derived.Deep.DeepCutAuto
import Derived.Deep.RegionHeld3
import Derived.Test.YtnlnclefedohkaaGreatDoorZRightW
import Derived.Test.YtnlnclefedohkaaGreatDoorZRSimpW
import Derived.Test.YtnlnclefedohkaaGreatDoorZRNarW
import Derived.Test.YtnlnclefedohkaaGreatDoorZRCommon
import Derived.Test.YtnlnclefedohkaaGreatDoorZCheckW
import Derived.Test.YtnlnclefedohkaaGreatDoorZGChkU
import Derived.Test.YtnlnclefedohkaaGreatDoorZEntM
set_option linter.unusedVariables false
set_option linter.unusedSimpArgs false
namespace Go.Proofs.YtnlnclefedohkaaGreatDoor
open Go Go.RowKit Sy
def RRightEnd (z : NewE) (B : Nat) (e : Ending) (w' : World) : Prop:=match rightHs z.e.rule z.e.hs with
 |none=>e = .returned (.tuple #[.agg #[.slice none 0 0,.bool false,.slice none 0 0],.bool false])
 |some ks=>∃ KA kc,e = .returned (.tuple #[.agg #[.slice z.RA z.e.right.parts.length z.rc,.bool z.e.right.rest,.slice KA (redL z.e.right ks).length kc],.bool true]) ∧ PatsN w' B KA kc (redL z.e.right ks)

set_option maxRecDepth 100000 in
set_option maxHeartbeats 16000000 in
theorem rright_c (z : NewE) (nl nr hn : Nat) (lr rr : Bool) (HA : Option Addr) (w : World) (h : EntU w z) (hs : SmallE z.e) (hr : ruleErr z.e.rule = 0) (hg : gErr z.e.reg = 0) (hnl : z.e.left.parts.length = nl) (hnr : z.e.right.parts.length = nr) (hhn : z.e.hs.length = hn) (hlr : z.e.left.rest = lr) (hrr : z.e.right.rest = rr) (hHA : z.HA = HA) :
  Calls Tryz.prog 60 #[entV z.LA z.RA HA nl z.lc nr z.rc hn z.hc lr rr] w fun e w'=>RRightEnd z w.heap.size e w' ∧ Calm w w':=by
 obtain ⟨w1,hw1⟩ : ∃ w1,w1 = (w.alloc (.cells #[.slice z.LA nl z.lc,.bool lr,.slice z.RA nr z.rc,.bool rr,.slice HA hn z.hc] 43)).alloc (.cells #[.slice none 0 0,.bool false,.slice none 0 0] 68):=⟨_,rfl⟩
 have hc1 : Calm w w1:=by rw [hw1];exact ((Calm.refl w).alloc _).alloc _
 have hb : FiveB w1 w.heap.size (.slice z.LA nl z.lc) (.bool lr) (.slice z.RA nr z.rc) (.bool rr) (.slice HA hn z.hc):=by
  rw [hw1]
  exact (FiveB.new w _ _ _ _ _ _).calm ((Calm.refl _).alloc _)
 have hz : ThreeB w1 (w.heap.size + 1) (.slice none 0 0) (.bool false) (.slice none 0 0):=by
  rw [hw1]
  have:=ThreeB.new (w.alloc (.cells #[.slice z.LA nl z.lc,.bool lr,.slice z.RA nr z.rc,.bool rr,.slice HA hn z.hc] 43)) (.slice none 0 0) (.bool false) (.slice none 0 0) 68
  simpa using this
 have hsR : SmallR z.e.rule:=⟨by have:=hs.lp;show z.e.left.parts.length ≤ _;omega,fun s hs'=>by have:=hs.ls s hs';omega,by have:=hs.rp;show z.e.right.parts.length ≤ _;omega,fun s hs'=>by have:=hs.rs s hs';omega⟩
 have h64 : hn ≤ 64:=by
  have:=(gErr_zero hg).2.2
  rw [← hhn]
  exact this
 have KLn : Hid (∀ W,Calls Tryz.prog 29 #[entV z.LA z.RA HA nl z.lc nr z.rc hn z.hc lr rr] W fun e w'=>e = .returned (.agg #[.bool false,.slice z.LA nl z.lc,.bool lr,.slice z.RA nr z.rc,.bool rr]) ∧ Calm W w'):=fun W=>rline_c _ _ _ _ _ _ _ _ _ _ _ W
 have KNL : Hid (∀ (p : Pat) (Ak : Option Addr) (pn ck : Nat) (pr : Bool) (W : World),Calm w1 W → PatA W Ak ck p → p.parts.length = pn → p.rest = pr → Calls Tryz.prog 62 #[.agg #[.bool false,.slice z.LA nl z.lc,.bool lr,.slice z.RA nr z.rc,.bool rr],.agg #[.slice Ak pn ck,.bool pr]] W fun e w'=>NarEnd (narL z.e.rule p) W.heap.size e w' ∧ Calm W w'):=fun p Ak pn ck pr W hW hp hpn hpr=>by
  have hu:=h.calm (hc1.trans hW)
  have:=rnleft_c z.e.rule p z.pl pn ck pr Ak W ⟨hu.l.r.toU,hu.r.r.toU,hu.l.room,hu.r.room,hu.l.cap,hu.r.cap⟩ hsR hp hpn hpr
  unfold ruleV Ent.rule NewE.pl at this
  simp only [hnl,hnr,hlr,hrr] at this
  exact this
 have HGood : Hid (∀ p ∈ z.e.hs,patErr p = 0):=(gErr_zero hg).2.1
 have HRu : Hid (ruleErr z.e.rule = 0):=hr
 have HSm:=Lib.hid hs
 have HU:=Lib.hid (h.calm hc1)
 have HHA:=Lib.hid hHA
 have HD:=Lib.hid (And.intro hnr (And.intro hhn hrr))
 have HW:=Lib.hid hw1
 have HC:=Lib.hid hc1
 have HB:=Lib.hid hb
 have HZ:=Lib.hid hz
 have hsz : w.heap.size + 1 < w1.heap.size:=hz.lt
 have b0:=hb.c0
 have b1:=hb.c1
 have b2:=hb.c2
 have b3:=hb.c3
 have b4:=hb.c4
 clear hw1 hc1 hb hz hHA h hs hr hg hnl hnr hhn hlr hrr hsR
 go_enter Tryz.func60,Tryz.ntmps60
 rw [HW.out] at b4
 go_wp2_with fail
 rw [← HW.out]
 clear b0 b1 b2 b3 b4
 go_loopw [4,13] (fun v u wr=>∃ (k : Nat) (ys : List NewP),k ≤ hn ∧ u = .int .i64 k ∧ Hid (ys.length ≤ k) ∧ Hid (RgtJ w1 wr z.e.rule z.e.hs k ys v)) (fun _ u _=>hn - (intOf u).toNat)
 case atStart=>exact ⟨0,[],Nat.zero_le _,rfl,Nat.le_refl _,⟨OwnX.nil (Calm.refl _),rfl,fun y hy=>(by cases hy)⟩⟩
 case round=>
  obtain ⟨k,ys,hk,rfl,HL,HI⟩:=hrel
  obtain ⟨wq,rfl⟩ : ∃ wq,wq = wr:=⟨_,rfl⟩
  have HCq : Hid (Calm w1 wq):=HI.out.own.calm
  by_cases hlt : k < hn
  ·obtain ⟨bb,o,p,Ak,ck,hA1,hbb,hp,h1,h2,h3,h5,h4⟩:=(HU.out.calm HCq.out).h.get (k:=k) (by rw [HD.out.2.1];exact hlt)
   obtain rfl : HA = some ⟨bb,o,none⟩:=HHA.out.symm.trans hA1
   obtain ⟨pn,hpn⟩ : ∃ pn,p.parts.length = pn:=⟨_,rfl⟩
   obtain ⟨pr,hpr⟩ : ∃ pr,p.rest = pr:=⟨_,rfl⟩
   rw [hpn] at h1
   rw [hpr] at h2
   have HP:=Lib.hid hp
   have HPa : Hid (PatA wq Ak ck p):=⟨h4,h3,h5⟩
   have HPn:=Lib.hid (And.intro hpn hpr)
   obtain ⟨wb,hwb⟩ : ∃ wb,wb = wq.alloc (.cells #[.slice Ak pn ck,.bool pr] 40):=⟨_,rfl⟩
   have HCb : Hid (Calm wq wb):=by
    show Below _ _ _
    rw [hwb]
    exact (Calm.refl _).alloc _
   obtain ⟨HB,hHB⟩ : ∃ HB,wq.heap.size = HB:=⟨_,rfl⟩
   have htb : TwoB wb HB (.slice Ak pn ck) (.bool pr):=by
    rw [hwb,← hHB]
    exact TwoB.new wq _ _ _
   have HTb:=Lib.hid htb
   have HSX : Hid (∀ W : World,Calm wb W → W.cell? ⟨w.heap.size,0,none⟩ = some (.slice z.LA nl z.lc) ∧ W.cell? ⟨w.heap.size,1,none⟩ = some (.bool lr) ∧ W.cell? ⟨w.heap.size,2,none⟩ = some (.slice z.RA nr z.rc) ∧ W.cell? ⟨w.heap.size,3,none⟩ = some (.bool rr) ∧ W.cell? ⟨w.heap.size,4,none⟩ = some (.slice (some ⟨bb,o,none⟩) hn z.hc) ∧ W.cell? ⟨HB,0,none⟩ = some (.slice Ak pn ck) ∧ W.cell? ⟨HB,1,none⟩ = some (.bool pr)):=fun W hW=>by
    have b:=(‹Hid (FiveB w1 w.heap.size _ _ _ _ _)›.out.calm (HCq.out.trans HCb.out)).calm hW
    have q:=htb.calm hW
    exact ⟨b.c0,b.c1,b.c2,b.c3,b.c4,q.c0,q.c1⟩
   have KN : Hid (∀ W,Calm wb W → Calls Tryz.prog 62 #[.agg #[.bool false,.slice z.LA nl z.lc,.bool lr,.slice z.RA nr z.rc,.bool rr],.agg #[.slice Ak pn ck,.bool pr]] W fun e w'=>NarEnd (narL z.e.rule p) W.heap.size e w' ∧ Calm W w'):=fun W hW=>KNL.out p Ak pn ck pr W (HCq.out.trans (HCb.out.trans hW)) ((HPa.out.calm HCb.out).calm hW) hpn hpr
   have HWb:=Lib.hid hwb
   have HHB:=Lib.hid hHB
   have hsq : w1.heap.size ≤ wb.heap.size:=(HCq.out.trans HCb.out).size
   clear hp h3 h4 h5 hpn hpr hwb hHB htb
   go_upto_region 5 with (fail)
   rw [← HWb.out,HHB.out]
   obtain ⟨⟨o',x⟩,hX⟩ : ∃ X,narL z.e.rule p = X:=⟨_,rfl⟩
   rw [hX] at KN
   have HX:=Lib.hid hX
   clear h1 h2 hX
   rcases o' with _ | m
   ·have KN1 : Hid (∀ W,Calm wb W → Calls Tryz.prog 62 #[.agg #[.bool false,.slice z.LA nl z.lc,.bool lr,.slice z.RA nr z.rc,.bool rr],.agg #[.slice Ak pn ck,.bool pr]] W fun e w'=>e = .returned (.tuple #[.agg #[.bool false,.slice none 0 0,.bool false,.slice none 0 0,.bool false],.bool false,.int .i64 x]) ∧ Calm W w'):=fun W hW=>(KN.out W hW).mono fun e w' h=>by
     obtain ⟨h1,h2⟩:=h
     refine ⟨?_,h2⟩
     rcases h1 with ⟨_,h1⟩ | ⟨m,a2,h1,_⟩
     ·exact h1
     ·cases h1
    clear KN
    go_cut [8,9] (fun s u wx=>s = .bool false ∧ u = .int .i64 x ∧ Hid (Calm wb wx))
    case first=>
     go_region_held3 (fun W=>W.cell? ⟨w.heap.size,0,none⟩ = some (.slice z.LA nl z.lc) ∧ W.cell? ⟨w.heap.size,1,none⟩ = some (.bool lr) ∧ W.cell? ⟨w.heap.size,2,none⟩ = some (.slice z.RA nr z.rc) ∧ W.cell? ⟨w.heap.size,3,none⟩ = some (.bool rr) ∧ W.cell? ⟨w.heap.size,4,none⟩ = some (.slice (some ⟨bb,o,none⟩) hn z.hc) ∧ W.cell? ⟨HB,0,none⟩ = some (.slice Ak pn ck) ∧ W.cell? ⟨HB,1,none⟩ = some (.bool pr))
      (first
       |with_reducible exact HSX.out _ (calm5 hcy hcx.size _ _ _ _ _)
       |with_reducible exact HSX.out _ (calm5 hcy (Nat.le_refl _) _ _ _ _ _)
       |with_reducible exact HSX.out _ hcy
       |with_reducible exact HSX.out _ (hcy.alloc _)
       |with_reducible exact HSX.out _ hcx
       |with_reducible exact HSX.out _ (hcx.alloc _)
       |with_reducible exact HSX.out _ (Calm.refl _)
       |with_reducible exact HSX.out _ (Below.drew (Calm.refl _))
       |with_reducible exact HSX.out _ (Below.drew ((Calm.refl _).alloc _))
       |with_reducible exact HSX.out _ ((Calm.refl _).alloc _)
       |go_keep)
      (first
       |(go_at_call 29;refine (KLn.out _).mono ?_;rintro e w4 ⟨rfl,hc4⟩;have hcx : Calm wb w4:=Calm.trans (by first | exact Below.drew (Calm.refl _) | exact Below.drew ((Calm.refl _).alloc _) | exact (Calm.refl _).alloc _ | exact Calm.refl _) hc4)
       |(go_at_call 62;refine (KN1.out _ (hcx.trans (by first | exact Calm.refl _ | exact (Calm.refl _).alloc _))).mono ?_;rintro e w5 ⟨rfl,hc5⟩;have hcy : Calm wb w5:=Calm.trans (hcx.trans (by first | exact Calm.refl _ | exact (Calm.refl _).alloc _)) hc5;(first | (with_reducible have hZ5 : FiveB w5 w4.heap.size (.bool false) (.slice none 0 0) (.bool false) (.slice none 0 0) (.bool false):=FiveB.calm (FiveB.new w4 _ _ _ _ _ _) hc5) | (with_reducible have hZ5 : FiveB w5 wb.heap.size (.bool false) (.slice none 0 0) (.bool false) (.slice none 0 0) (.bool false):=FiveB.calm (FiveB.calm (five_drew wb _) hc4) hc5) | skip);try (have z0:=hZ5.c0;have z1:=hZ5.c1;have z2:=hZ5.c2;have z3:=hZ5.c3;have z4:=hZ5.c4;have f0:=hZ5.fz 0;have f1:=hZ5.fz 1;have f2:=hZ5.fz 2;have f3:=hZ5.fz 3;have f4:=hZ5.fz 4)))
     all_goals
      go_wp2_with fail
      go_meet
      case rel=>
       first
        |(refine ⟨rfl,rfl,Lib.hid ?_⟩;with_reducible exact hcy.alloc _)
        |(refine ⟨rfl,rfl,Lib.hid ?_⟩;with_reducible exact hcy)
        |(refine ⟨rfl,rfl,Lib.hid ?_⟩;with_reducible exact calm5 hcy hcx.size _ _ _ _ _)
        |(refine ⟨rfl,rfl,Lib.hid ?_⟩;with_reducible exact calm5 hcy (Nat.le_refl _) _ _ _ _ _)
    case rest=>
     obtain ⟨rfl,rfl,HR⟩:=hcut
     have HCx : Hid (Calm w1 wc):=HCq.out.trans (HCb.out.trans HR.out)
     by_cases hx0 : x = 0
     ·subst hx0
      have HI2:=HI.out.miss HP.out (by rw [HX.out]) (by rw [HX.out]) (HCb.out.trans HR.out)
      have HI3:=Lib.hid HI2
      go_wp2_with fail
      go_roundw
      case rel=>exact ⟨k + 1,ys,by omega,by go_num,Nat.le_succ_of_le HL.out,HI3.out⟩
      case measure=>simp [intOf];omega
     ·have hx1 : (x == 0) = false:=by rw [beq_eq_false_iff_ne];exact hx0
      have HN : Hid (rightHs z.e.rule z.e.hs = none):=HI.out.stop HP.out (by rw [HX.out];exact hx0)
      have h3:=HZ.out.calm HCx.out
      have z0:=h3.c0
      have z1:=h3.c1
      have z2:=h3.c2
      have f0:=h3.fz 0
      have f1:=h3.fz 1
      have f2:=h3.fz 2
      have HC8 : Hid (∀ u0 u1 u2,Calm w (set3 wc (w.heap.size + 1) u0 u1 u2)):=fun u0 u1 u2=>calm3' (HC.out.trans HCx.out) (by omega) _ _ _
      clear h3 hx0
      go_wp2_with fail
      refine bodyPost_ret (v:=.tuple #[.agg #[.slice none 0 0,.bool false,.slice none 0 0],.bool false]) ?_ rfl ⟨by show RRightEnd _ _ _ _;unfold RRightEnd;rw [HN.out],HC8.out _ _ _⟩
      rw [results_cell_slot rfl]
      go_simp
   ·obtain ⟨rfl,hme⟩ : x = 0 ∧ m.excl = false:=by
     have h1 : (narL z.e.rule p).1 = some m:=by rw [HX.out]
     obtain ⟨_,_,g3,m',_,rfl,_,_⟩:=narL_some h1
     rw [HX.out] at g3
     exact ⟨g3,rfl⟩
    obtain ⟨ml,hml⟩ : ∃ ml,m.left.parts.length = ml:=⟨_,rfl⟩
    obtain ⟨mr,hmr⟩ : ∃ mr,m.right.parts.length = mr:=⟨_,rfl⟩
    obtain ⟨tl,htl⟩ : ∃ tl,m.left.rest = tl:=⟨_,rfl⟩
    obtain ⟨tr,htr⟩ : ∃ tr,m.right.rest = tr:=⟨_,rfl⟩
    have KN1 : Hid (∀ W,Calm wb W → Calls Tryz.prog 62 #[.agg #[.bool false,.slice z.LA nl z.lc,.bool lr,.slice z.RA nr z.rc,.bool rr],.agg #[.slice Ak pn ck,.bool pr]] W fun e w'=>(∃ a2,e = .returned (.tuple #[.agg #[.bool false,.slice a2.AL ml a2.cl,.bool tl,.slice a2.AR mr a2.cr,.bool tr],.bool true,.int .i64 0]) ∧ RuleN w' W.heap.size a2 m) ∧ Calm W w'):=fun W hW=>(KN.out W hW).mono fun e w' h=>by
     obtain ⟨h1,h2⟩:=h
     refine ⟨?_,h2⟩
     rcases h1 with ⟨h1,_⟩ | ⟨m',a2,h1,h3,h4⟩
     ·cases h1
     ·obtain rfl : m = m':=by simpa using h1
      refine ⟨a2,?_,h4⟩
      rw [h3]
      unfold ruleV
      rw [hme,hml,hmr,htl,htr]
    have HM:=Lib.hid (And.intro hmr htr)
    have HMs : Hid (m.right.parts.length ≤ 16384 ∧ ∀ l ∈ m.right.parts,l.length ≤ 16384):=by
     have h1 : (narL z.e.rule p).1 = some m:=by rw [HX.out]
     have h12:=patErr_len (ruleErr_twin.1 (narL_good h1)).rp
     refine ⟨by omega,fun l hl=>?_⟩
     have:=narL_each h1 (L:=250) (by decide) HSm.out.ls HSm.out.rs (HSm.out.h p (List.mem_of_getElem? HP.out)).2 l hl
     omega
    clear KN hme hml hmr htl htr
    go_cut [7,8,9] (fun s t u wx=>∃ B10 a2,s = .pointer (some ⟨B10,0,none⟩) ∧ t = .bool true ∧ u = .int .i64 0 ∧ Hid (LineB wb wx B10 wb.heap.size a2 m (.bool false) (.slice a2.AL ml a2.cl) (.bool tl) (.slice a2.AR mr a2.cr) (.bool tr)))
    case first=>
     go_region_held3 (fun W=>W.cell? ⟨w.heap.size,0,none⟩ = some (.slice z.LA nl z.lc) ∧ W.cell? ⟨w.heap.size,1,none⟩ = some (.bool lr) ∧ W.cell? ⟨w.heap.size,2,none⟩ = some (.slice z.RA nr z.rc) ∧ W.cell? ⟨w.heap.size,3,none⟩ = some (.bool rr) ∧ W.cell? ⟨w.heap.size,4,none⟩ = some (.slice (some ⟨bb,o,none⟩) hn z.hc) ∧ W.cell? ⟨HB,0,none⟩ = some (.slice Ak pn ck) ∧ W.cell? ⟨HB,1,none⟩ = some (.bool pr))
      (first
       |with_reducible exact HSX.out _ (calm5 hcy hcx.size _ _ _ _ _)
       |with_reducible exact HSX.out _ (calm5 hcy (Nat.le_refl _) _ _ _ _ _)
       |with_reducible exact HSX.out _ hcy
       |with_reducible exact HSX.out _ (hcy.alloc _)
       |with_reducible exact HSX.out _ hcx
       |with_reducible exact HSX.out _ (hcx.alloc _)
       |with_reducible exact HSX.out _ (Calm.refl _)
       |with_reducible exact HSX.out _ (Below.drew (Calm.refl _))
       |with_reducible exact HSX.out _ (Below.drew ((Calm.refl _).alloc _))
       |with_reducible exact HSX.out _ ((Calm.refl _).alloc _)
       |go_keep)
      (first
       |(go_at_call 29;refine (KLn.out _).mono ?_;rintro e w4 ⟨rfl,hc4⟩;have hcx : Calm wb w4:=Calm.trans (by first | exact Below.drew (Calm.refl _) | exact Below.drew ((Calm.refl _).alloc _) | exact (Calm.refl _).alloc _ | exact Calm.refl _) hc4)
       |(go_at_call 62;refine (KN1.out _ (hcx.trans (by first | exact Calm.refl _ | exact (Calm.refl _).alloc _))).mono ?_;rintro e w5 ⟨⟨a2,rfl,hN5⟩,hc5⟩;have hcy : Calm wb w5:=Calm.trans (hcx.trans (by first | exact Calm.refl _ | exact (Calm.refl _).alloc _)) hc5;(first | (with_reducible have hZ5 : FiveB w5 w4.heap.size (.bool false) (.slice none 0 0) (.bool false) (.slice none 0 0) (.bool false):=FiveB.calm (FiveB.new w4 _ _ _ _ _ _) hc5) | (with_reducible have hZ5 : FiveB w5 wb.heap.size (.bool false) (.slice none 0 0) (.bool false) (.slice none 0 0) (.bool false):=FiveB.calm (FiveB.calm (five_drew wb _) hc4) hc5) | skip);try (have z0:=hZ5.c0;have z1:=hZ5.c1;have z2:=hZ5.c2;have z3:=hZ5.c3;have z4:=hZ5.c4;have f0:=hZ5.fz 0;have f1:=hZ5.fz 1;have f2:=hZ5.fz 2;have f3:=hZ5.fz 3;have f4:=hZ5.fz 4)))
     all_goals
      have hs7:=hc4.size
      have hs8:=hcx.size
      have hs9:=hc5.size
      simp [go_sem] at hs7
      go_wp2_with fail
      go_meet
      case rel=>
       first
        |(refine ⟨_,a2,rfl,rfl,rfl,Lib.hid ?_⟩;with_reducible exact lineB_new hcy (by omega) hN5)
        |(refine ⟨_,a2,rfl,rfl,rfl,Lib.hid ?_⟩;with_reducible exact lineB_set hZ5 hcy hs8 (by simp [go_sem]) (by simp [go_sem];omega) hN5)
        |(refine ⟨_,a2,rfl,rfl,rfl,Lib.hid ?_⟩;with_reducible exact lineB_set hZ5 hcy (Nat.le_refl _) (by omega) (by omega) hN5)
    case rest=>
     obtain ⟨B10,a2,rfl,rfl,rfl,HR⟩:=hcut
     have HCx : Hid (Calm wq wc):=HCb.out.trans HR.out.calm
     have d3:=HR.out.five.c3
     have d4:=HR.out.five.c4
     have HSn : Hid (SmallN wc w1.heap.size ⟨a2.AR,a2.cr,m.right⟩):=⟨HR.out.new.r.mono (by exact hsq),HMs.out.1,HMs.out.2⟩
     have hyl:=HL.out
     go_wp2_with (at_builtin;refine wpList_append_ps rfl (.tmp 29) (.tmp 32) rfl w1 _ ys [⟨a2.AR,a2.cr,m.right⟩] rfl (HI.out.own.to (HCx.out.alloc _)) _ 1 1 rfl rfl (read_newH ⟨a2.AR,a2.cr,m.right⟩ rfl HM.out.1 HM.out.2) (by omega) ?_;intro v7 w7 hown7 hg7)
     go_roundw
     case rel=>exact ⟨k + 1,ys ++ [(⟨a2.AR,a2.cr,m.right⟩ : NewP)],by omega,by go_num,by show _ ≤ _;rw [List.length_append,List.length_singleton];omega,Lib.hid <| HI.out.hit HP.out (by rw [HX.out]) (n:=m) (by rw [HX.out]) (x:=⟨a2.AR,a2.cr,m.right⟩) rfl (HCx.out.alloc _) (HSn.out.calm ((Calm.refl _).alloc _)) hg7 hown7⟩
     case measure=>simp [intOf];omega
  ·obtain rfl : k = hn:=by omega
   have his : rightHs z.e.rule z.e.hs = some (ys.map (·.p)):=by
    have:=HI.out.is
    rw [List.take_of_length_le (by rw [HD.out.2.1];exact Nat.le_refl _)] at this
    exact this
   have HIs:=Lib.hid his
   obtain ⟨A9,c9,hv⟩:=HI.out.own.len_shape
   subst hv
   have hpn:=HI.out.own.patsN (B:=w1.heap.size) (Nat.le_refl _) HI.out.each
   obtain ⟨N,hN⟩ : ∃ N,ys.length = N:=⟨_,rfl⟩
   obtain ⟨rn,hrn⟩ : ∃ rn,(redL z.e.right (ys.map (·.p))).length = rn:=⟨_,rfl⟩
   have hgood:=(rightHs_good his).1
   have hyl:=HL.out
   have hyl2 : (ys.map (·.p)).length ≤ 16384:=by
    rw [List.length_map]
    have : ys.length ≤ _:=hyl
    omega
   have KS : Hid (∀ W,Calm wq W → Calls Tryz.prog 41 #[.agg #[.slice z.RA nr z.rc,.bool rr],.slice A9 N c9] W fun e w'=>(∃ KA kc,e = .returned (.agg #[.slice z.RA nr z.rc,.bool rr,.slice KA rn kc]) ∧ PatsN w' W.heap.size KA kc (redL z.e.right (ys.map (·.p)))) ∧ Calm W w'):=fun W hW=>by
    have:=rsimp_c z.e.right (ys.map (·.p)) z.RA z.rc A9 N c9 W (HU.out.r.calm (HCq.out.trans hW)) ((hpn.reads hyl2).calm hW) (by rw [List.length_map];exact hN) (ruleErr_twin.1 HRu.out).rp hgood
    unfold RSEnd at this
    rw [HD.out.1,HD.out.2.2,hrn] at this
    exact this
   have hbq:=HB.out.calm HCq.out
   have b2:=hbq.c2
   have b3:=hbq.c3
   have hsq:=HCq.out.size
   have HRn:=Lib.hid hrn
   rw [hN]
   clear hbq his hpn hN hrn hgood hyl hyl2
   go_wp2_with (go_at_call 41;refine (KS.out _ (Calm.refl _)).mono ?_;rintro e w5 ⟨⟨KA,kc,rfl,hp5⟩,hc5⟩;have h3:=HZ.out.calm (HCq.out.trans hc5);have z0:=h3.c0;have z1:=h3.c1;have z2:=h3.c2;have f0:=h3.fz 0;have f1:=h3.fz 1;have f2:=h3.fz 2)
   refine bodyPost_ret (v:=.tuple #[.agg #[.slice z.RA nr z.rc,.bool rr,.slice KA rn kc],.bool true]) ?_ rfl ⟨by
    show RRightEnd _ _ _ _
    unfold RRightEnd
    rw [HIs.out]
    exact ⟨KA,kc,by rw [HD.out.1,HD.out.2.2,HRn.out],(hp5.set3 (by omega) _ _ _).mono (by omega)⟩,calm3' (HC.out.trans (HCq.out.trans hc5)) (by omega) _ _ _⟩
   rw [results_cell_slot rfl]
   go_simp
end Go.Proofs.YtnlnclefedohkaaGreatDoor
set_option linter.unusedVariables false
set_option linter.unusedSimpArgs false
namespace Go.Proofs.YtnlnclefedohkaaGreatDoor
open Go Go.RowKit Sy

theorem SizeE.r {K : Nat} {x : Ent} (h : SizeE K x) (hK : K ≤ 250) : SmallR x.rule:=⟨by have:=h.lp;show x.left.parts.length ≤ _;omega,fun s hs'=>by have:=h.ls s hs';omega,by have:=h.rp;show x.right.parts.length ≤ _;omega,fun s hs'=>by have:=h.rs s hs';omega⟩
theorem redC {x y : Ent} {ks ls : List Pat} (h1 : rightHs x.rule x.hs = some ks) (h2 : rightHs y.rule y.hs = some ls) : commonG ⟨x.right,redL x.right ks⟩ ⟨y.right,redL y.right ls⟩ = commonG ⟨x.right,ks⟩ ⟨y.right,ls⟩:=
 commonG_red (a:=⟨x.right,ks⟩) (b:=⟨y.right,ls⟩) (fun p hp=>(rightHs_good h1).1 p hp) (fun p hp=>(rightHs_good h2).1 p hp)
set_option maxRecDepth 100000 in
set_option maxHeartbeats 16000000 in
theorem rmchk_c (es : List Ent) (n c : Nat) (A : Option Addr) (w : World) (h : EntsA w A es) (hcn : n ≤ c) (hcc : c ≤ 9223372036854775807) (hs : ∀ x ∈ es,SmallE x) (hn : es.length = n) :
  Calls Tryz.prog 27 #[.slice A n c] w fun e w'=>e = .returned (.tuple #[.int .i64 ((mapE es).1 : Nat),.int .i64 (mapE es).2]) ∧ Calm w w':=by
 have hl : n ≤ 1048576:=by rw [← hn];exact h.1
 have HE:=Lib.hid h
 have HS:=Lib.hid hs
 have HN:=Lib.hid hn
 clear h hs hn
 go_enter Tryz.func27,Tryz.ntmps27
 go_wp2_with fail
 go_loopw [20] (fun u wr=>∃ k : Nat,k ≤ n ∧ u = .int .i64 k ∧ Hid (∀ j q,j < k → es[j]? = some q → entryOk q = true) ∧ Hid (Calm w wr)) (fun u _=>n - (intOf u).toNat)
 case atStart=>exact ⟨0,Nat.zero_le _,rfl,fun j h hj=>absurd hj (Nat.not_lt_zero _),Calm.refl _⟩
 case round=>
  obtain ⟨k,hk,rfl,HI,HCr⟩:=hrel
  obtain ⟨wq,rfl⟩ : ∃ wq,wq = wr:=⟨_,rfl⟩
  by_cases hlt : k < n
  ·obtain ⟨b,o,z,rfl,hb,hz,c0,c1,c2,c3,c4,hu⟩:=(HE.out.calm HCr.out).get (k:=k) (by rw [HN.out];exact hlt)
   have hss:=HS.out z.e (List.mem_of_getElem? hz)
   obtain ⟨nl,hnl⟩ : ∃ nl,z.e.left.parts.length = nl:=⟨_,rfl⟩
   obtain ⟨nr,hnr⟩ : ∃ nr,z.e.right.parts.length = nr:=⟨_,rfl⟩
   obtain ⟨lr,hlr⟩ : ∃ lr,z.e.left.rest = lr:=⟨_,rfl⟩
   obtain ⟨rr,hrr⟩ : ∃ rr,z.e.right.rest = rr:=⟨_,rfl⟩
   obtain ⟨hn,hhn⟩ : ∃ hn,z.e.hs.length = hn:=⟨_,rfl⟩
   rw [hnl] at c0
   rw [hlr] at c1
   rw [hnr] at c2
   rw [hrr] at c3
   rw [hhn] at c4
   obtain ⟨v,hv⟩ : ∃ v,ruleErr z.e.rule = v:=⟨_,rfl⟩
   obtain ⟨y,hy⟩ : ∃ y,gErr z.e.reg = y:=⟨_,rfl⟩
   have KL : Hid (∀ W,Calls Tryz.prog 29 #[entV z.LA z.RA z.HA nl z.lc nr z.rc hn z.hc lr rr] W fun e w'=>e = .returned (.agg #[.bool false,.slice z.LA nl z.lc,.bool lr,.slice z.RA nr z.rc,.bool rr]) ∧ Calm W w'):=fun W=>rline_c _ _ _ _ _ _ _ _ _ _ _ W
   have KG : Hid (∀ W,Calls Tryz.prog 59 #[entV z.LA z.RA z.HA nl z.lc nr z.rc hn z.hc lr rr] W fun e w'=>e = .returned (.agg #[.slice z.LA nl z.lc,.bool lr,.slice z.HA hn z.hc]) ∧ Calm W w'):=fun W=>rleft_c _ _ _ _ _ _ _ _ _ _ _ W
   have KR : Hid (∀ W,Calm wq W → Calls Tryz.prog 57 #[.agg #[.bool false,.slice z.LA nl z.lc,.bool lr,.slice z.RA nr z.rc,.bool rr]] W fun e w'=>e = .returned (.int .i64 v) ∧ Calm W w'):=fun W hW=>by
    have:=rrule_c z.e.rule z.pl W (hu.calm hW).rule (hss.r (Nat.le_refl _))
    unfold ruleV Ent.rule NewE.pl at this
    simp only [hnl,hnr,hlr,hrr] at this
    rw [show (⟨false,z.e.left,z.e.right⟩ : Rule) = z.e.rule from rfl,hv] at this
    exact this
   have KC : Hid (∀ W,Calm wq W → Calls Tryz.prog 58 #[.agg #[.slice z.LA nl z.lc,.bool lr,.slice z.HA hn z.hc]] W fun e w'=>e = .returned (.int .i64 y) ∧ Calm W w'):=fun W hW=>by
    have hh:=hu.calm hW
    have:=rgchecku_c z.e.left z.e.hs z.LA z.lc z.HA z.hc W hh.l hh.lroom hh.lcap hh.h
    rw [hnl,hlr,hhn,show regErr z.e.left z.e.hs = y from hy] at this
    exact this
   have HOk : Hid (entryOk z.e = (v == 0 && y == 0)):=by
    show _ = _
    unfold entryOk
    rw [hv,hy]
   have HZ:=Lib.hid hz
   obtain ⟨B,hB⟩ : ∃ B,wq.heap.size = B:=⟨_,rfl⟩
   obtain ⟨wb,hwb⟩ : ∃ wb,wb = wq.alloc (.cells #[.slice z.LA nl z.lc,.bool lr,.slice z.RA nr z.rc,.bool rr,.slice z.HA hn z.hc] 43):=⟨_,rfl⟩
   have hf : FiveB wb B (.slice z.LA nl z.lc) (.bool lr) (.slice z.RA nr z.rc) (.bool rr) (.slice z.HA hn z.hc):=by
    rw [hwb,← hB]
    exact FiveB.new wq _ _ _ _ _ _
   have hcb : Calm wq wb:=by
    show Below _ _ _
    rw [hwb]
    exact (Calm.refl _).alloc _
   have HF:=Lib.hid hf
   have HCb:=Lib.hid hcb
   have HWb:=Lib.hid hwb
   have HBB:=Lib.hid hB
   clear hz hu hnl hnr hlr hrr hhn hv hy hcb hwb hB hf hss
   go_wp2_with fail
   rw [← HWb.out]
   refine (KL.out wb).mono ?_
   rintro e w3 ⟨rfl,hc3⟩
   have HC3 : Hid (Calm wb w3):=hc3
   rw [HBB.out]
   clear c0 c1 c2 c3 c4 hc3
   go_wp2_with fail
   refine (KR.out w3 (HCb.out.trans HC3.out)).mono ?_
   rintro e w4 ⟨rfl,hc4⟩
   have HC4 : Hid (Calm wb w4):=HC3.out.trans hc4
   clear hc4
   have f3:=HF.out.calm HC4.out
   have c0:=f3.c0
   have c1:=f3.c1
   have c2:=f3.c2
   have c3:=f3.c3
   have c4:=f3.c4
   clear f3
   by_cases hv0 : v = 0
   ·subst hv0
    go_wp2_with fail
    refine (KG.out w4).mono ?_
    rintro e w5 ⟨rfl,hc5⟩
    have HC5 : Hid (Calm wb w5):=HC4.out.trans hc5
    clear hc5 c0 c1 c2 c3 c4
    go_wp2_with fail
    refine (KC.out w5 (HCb.out.trans HC5.out)).mono ?_
    rintro e w6 ⟨rfl,hc6⟩
    have HC6 : Hid (Calm wq w6):=HCb.out.trans (HC5.out.trans hc6)
    clear hc6
    by_cases hy0 : y = 0
    ·subst hy0
     have HO : Hid (entryOk z.e = true):=HOk.out
     go_wp2_with fail
     go_roundw
     case rel=>exact ⟨k + 1,by omega,by go_num,okStep HZ.out HO.out HI.out,HCr.out.trans HC6.out⟩
     case measure=>simp [intOf];omega
    ·have hyb : (y != 0) = true:=by simpa using hy0
     have HE1 : Hid (mapE es = (k,70)):=mapE_idx HZ.out (by rw [HOk.out];simpa using hy0) HI.out
     clear hy0
     go_wp2_with fail
     go_ret2
     exact ⟨by rw [HE1.out];rfl,HCr.out.trans HC6.out⟩
   ·have hvb : (v != 0) = true:=by simpa using hv0
    have HE1 : Hid (mapE es = (k,70)):=mapE_idx HZ.out (by rw [HOk.out];simp [hv0]) HI.out
    clear hv0
    go_wp2_with fail
    go_ret2
    exact ⟨by rw [HE1.out];rfl,HCr.out.trans (HCb.out.trans HC4.out)⟩
  ·obtain rfl : k = n:=by omega
   have hall : Hid (∀ j q,j < es.length → es[j]? = some q → entryOk q = true):=fun j q hj=>HI.out j q (by rw [← HN.out];exact hj)
   by_cases h32 : 32 < k
   ·have hE : Hid (mapE es = (0,72)):=mapE_long hall.out (by rw [HN.out];exact h32)
    go_wp2_with fail
    go_ret2
    exact ⟨by rw [hE.out];rfl,HCr.out⟩
   ·have h32' : k ≤ 32:=Nat.le_of_not_lt h32
    go_wp2_with fail
    go_loopw [42] (fun u wr=>∃ j : Nat,j ≤ k ∧ u = .int .i64 j ∧ Hid (Calm w wr) ∧ Hid (∀ i q,i < j → es[i]? = some q → ∃ ks,rightHs q.rule q.hs = some ks)) (fun u _=>k - (intOf u).toNat)
    case atStart=>exact ⟨0,Nat.zero_le _,rfl,HCr.out,fun i q hi=>absurd hi (Nat.not_lt_zero _)⟩
    case round=>
     obtain ⟨j,hj,rfl,HCj,HT⟩:=hrel
     obtain ⟨wp,rfl⟩ : ∃ wp,wp = wr:=⟨_,rfl⟩
     by_cases hlt2 : j < k
     ·obtain ⟨b,o,z,rfl,hb,hz,c0,c1,c2,c3,c4,hu⟩:=(HE.out.calm HCj.out).get (k:=j) (by rw [HN.out];exact hlt2)
      obtain ⟨gr,gg⟩:=entryOk_iff.1 (hall.out j z.e (by rw [HN.out];exact hlt2) hz)
      have hs:=HS.out z.e (List.mem_of_getElem? hz)
      have huU:=hu.u hs (by have:=(gErr_zero gg).2.2;show z.e.reg.hs.length ≤ _;omega)
      obtain ⟨nl,hnl⟩ : ∃ nl,z.e.left.parts.length = nl:=⟨_,rfl⟩
      obtain ⟨nr,hnr⟩ : ∃ nr,z.e.right.parts.length = nr:=⟨_,rfl⟩
      obtain ⟨lr,hlr⟩ : ∃ lr,z.e.left.rest = lr:=⟨_,rfl⟩
      obtain ⟨rr,hrr⟩ : ∃ rr,z.e.right.rest = rr:=⟨_,rfl⟩
      obtain ⟨hn,hhn⟩ : ∃ hn,z.e.hs.length = hn:=⟨_,rfl⟩
      rw [hnl] at c0
      rw [hlr] at c1
      rw [hnr] at c2
      rw [hrr] at c3
      rw [hhn] at c4
      have KR0 : Hid (∀ W,Calm wp W → Calls Tryz.prog 60 #[entV z.LA z.RA z.HA nl z.lc nr z.rc hn z.hc lr rr] W fun e w'=>RRightEnd z W.heap.size e w' ∧ Calm W w'):=fun W hW=>
       rright_c z nl nr hn lr rr z.HA W (huU.calm hW) hs gr gg hnl hnr hhn hlr hrr rfl
      have HZ:=Lib.hid hz
      obtain ⟨wb,hwb⟩ : ∃ wb,wb = wp.alloc (.cells #[.slice z.LA nl z.lc,.bool lr,.slice z.RA nr z.rc,.bool rr,.slice z.HA hn z.hc] 43):=⟨_,rfl⟩
      have hcb : Calm wp wb:=by
       show Below _ _ _
       rw [hwb]
       exact (Calm.refl _).alloc _
      have HCb:=Lib.hid hcb
      have HWb:=Lib.hid hwb
      rcases hrh : rightHs z.e.rule z.e.hs with _ | ks
      ·have KR : Hid (∀ W,Calm wp W → Calls Tryz.prog 60 #[entV z.LA z.RA z.HA nl z.lc nr z.rc hn z.hc lr rr] W fun e w'=>e = .returned (.tuple #[.agg #[.slice none 0 0,.bool false,.slice none 0 0],.bool false]) ∧ Calm W w'):=fun W hW=>(KR0.out W hW).mono fun e w' h=>by
        obtain ⟨h1,h2⟩:=h
        unfold RRightEnd at h1
        rw [hrh] at h1
        exact ⟨h1,h2⟩
       have hE : Hid (mapE es = (0,72)):=mapE_big hall.out hz hrh
       clear hz hu huU hs gr gg hnl hnr hlr hrr hhn hcb hwb hrh KR0
       go_wp2_with fail
       rw [← HWb.out]
       refine (KR.out wb HCb.out).mono ?_
       rintro e w3 ⟨rfl,hc3⟩
       clear c0 c1 c2 c3 c4
       go_wp2_with fail
       go_ret2
       exact ⟨by rw [hE.out];rfl,HCj.out.trans (HCb.out.trans (hc3.trans ((Calm.refl _).alloc _)))⟩
      ·obtain ⟨kn,hkn⟩ : ∃ kn,(redL z.e.right ks).length = kn:=⟨_,rfl⟩
       have KR : Hid (∀ W,Calm wp W → Calls Tryz.prog 60 #[entV z.LA z.RA z.HA nl z.lc nr z.rc hn z.hc lr rr] W fun e w'=>(∃ KA kc,e = .returned (.tuple #[.agg #[.slice z.RA nr z.rc,.bool rr,.slice KA kn kc],.bool true])) ∧ Calm W w'):=fun W hW=>(KR0.out W hW).mono fun e w' h=>by
        obtain ⟨h1,h2⟩:=h
        unfold RRightEnd at h1
        rw [hrh] at h1
        simp only [hnr,hrr,hkn] at h1
        obtain ⟨KA,kc,h1,_⟩:=h1
        exact ⟨⟨KA,kc,h1⟩,h2⟩
       have HRh:=Lib.hid hrh
       clear hz hu huU hs gr gg hnl hnr hlr hrr hhn hcb hwb hrh hkn KR0
       go_wp2_with fail
       rw [← HWb.out]
       refine (KR.out wb HCb.out).mono ?_
       rintro e w3 ⟨⟨KA,kc,rfl⟩,hc3⟩
       clear c0 c1 c2 c3 c4
       have HC3 : Hid (Calm w (w3.alloc (.cells #[.slice z.RA nr z.rc,.bool rr,.slice KA kn kc] 68))):=HCj.out.trans (HCb.out.trans (hc3.trans ((Calm.refl _).alloc _)))
       clear hc3
       go_wp2_with fail
       go_roundw
       case rel=>
        refine ⟨j + 1,by omega,by go_num,HC3.out,fun i q hi hq=>?_⟩
        by_cases e : i = j
        ·subst e
         have:=HZ.out
         rw [hq] at this
         obtain rfl:=Option.some.inj this
         exact ⟨_,HRh.out⟩
        ·exact HT.out i q (by omega) hq
       case measure=>simp [intOf];omega
     ·obtain rfl : k = j:=by omega
      have hrs : Hid (∀ i q,i < es.length → es[i]? = some q → ∃ ks,rightHs q.rule q.hs = some ks):=fun i q hi hq=>HT.out i q (by rw [← HN.out];exact hi) hq
      go_wp2_with fail
      go_loopw [56] (fun u wr=>∃ i : Nat,i ≤ k ∧ u = .int .i64 i ∧ Hid (Calm wp wr) ∧ Hid (∀ j,j < i → clashAt es j = false)) (fun u _=>k - (intOf u).toNat)
      case atStart=>exact ⟨0,Nat.zero_le _,rfl,Calm.refl _,fun j hj=>absurd hj (Nat.not_lt_zero _)⟩
      case round=>
       obtain ⟨i,hi,rfl,HCi,HP⟩:=hrel
       obtain ⟨wi,rfl⟩ : ∃ wi,wi = wr:=⟨_,rfl⟩
       by_cases hlt3 : i < k
       ·obtain ⟨b,o,x,rfl,hb,hx,c0,c1,c2,c3,c4,hux⟩:=HE.out.get (k:=i) (by rw [HN.out];exact hlt3)
        have HCwi : Hid (Calm w wi):=HCj.out.trans HCi.out
        have c0:=HCwi.out.at_ c0 hb
        have c1:=HCwi.out.at_ c1 hb
        have c2:=HCwi.out.at_ c2 hb
        have c3:=HCwi.out.at_ c3 hb
        have c4:=HCwi.out.at_ c4 hb
        have hb1:=Nat.lt_of_lt_of_le hb HCwi.out.size
        obtain ⟨gr,gg⟩:=entryOk_iff.1 (hall.out i x.e (by rw [HN.out];exact hlt3) hx)
        have hs:=HS.out x.e (List.mem_of_getElem? hx)
        have hxu:=hux.u hs (by have:=(gErr_zero gg).2.2;show x.e.reg.hs.length ≤ _;omega)
        have HXU:=Lib.hid hxu
        have HXg:=Lib.hid (And.intro gr gg)
        have HX:=Lib.hid hx
        obtain ⟨ks,r1⟩:=hrs.out i x.e (by rw [HN.out];exact hlt3) hx
        obtain ⟨xl,hxl⟩ : ∃ xl,x.e.left.parts.length = xl:=⟨_,rfl⟩
        obtain ⟨xr,hxr⟩ : ∃ xr,x.e.right.parts.length = xr:=⟨_,rfl⟩
        obtain ⟨xlr,hxlr⟩ : ∃ xlr,x.e.left.rest = xlr:=⟨_,rfl⟩
        obtain ⟨xrr,hxrr⟩ : ∃ xrr,x.e.right.rest = xrr:=⟨_,rfl⟩
        obtain ⟨xh,hxh⟩ : ∃ xh,x.e.hs.length = xh:=⟨_,rfl⟩
        obtain ⟨kn,hkn⟩ : ∃ kn,(redL x.e.right ks).length = kn:=⟨_,rfl⟩
        rw [hxl] at c0
        rw [hxlr] at c1
        rw [hxr] at c2
        rw [hxrr] at c3
        rw [hxh] at c4
        have HXn:=Lib.hid (And.intro hxl (And.intro hxr (And.intro hxlr (And.intro hxrr hxh))))
        have KRx : Hid (∀ W,Calm w W → Calls Tryz.prog 60 #[entV x.LA x.RA x.HA xl x.lc xr x.rc xh x.hc xlr xrr] W fun e w'=>(∃ KA kc,e = .returned (.tuple #[.agg #[.slice x.RA xr x.rc,.bool xrr,.slice KA kn kc],.bool true]) ∧ PatsN w' W.heap.size KA kc (redL x.e.right ks)) ∧ Calm W w'):=fun W hW=>by
         have:=rright_c x xl xr xh xlr xrr x.HA W (hxu.calm hW) hs gr gg hxl hxr hxh hxlr hxrr rfl
         unfold RRightEnd at this
         rw [r1] at this
         simp only [hxr,hxrr,hkn] at this
         exact this
        have HR1:=Lib.hid r1
        have HKn:=Lib.hid hkn
        obtain ⟨wB,hwB⟩ : ∃ wB,wB = wi.alloc (.cells #[.slice x.LA xl x.lc,.bool xlr,.slice x.RA xr x.rc,.bool xrr,.slice x.HA xh x.hc] 43):=⟨_,rfl⟩
        obtain ⟨BX,hBX⟩ : ∃ BX,wi.heap.size = BX:=⟨_,rfl⟩
        have hcB : Calm wi wB:=by
         show Below _ _ _
         rw [hwB]
         exact (Calm.refl _).alloc _
        have HFx : Hid (FiveB wB BX (.slice x.LA xl x.lc) (.bool xlr) (.slice x.RA xr x.rc) (.bool xrr) (.slice x.HA xh x.hc)):=by
         show FiveB _ _ _ _ _ _ _
         rw [hwB,← hBX]
         exact FiveB.new wi _ _ _ _ _ _
        have HCB:=Lib.hid hcB
        have HWB:=Lib.hid hwB
        have HBX:=Lib.hid hBX
        clear hx hux hxu gr gg hs hxl hxr hxlr hxrr hxh hwB hcB hBX r1 hkn
        have hik : i ≤ c:=by omega
        go_wp2_with fail
        rw [← HWB.out]
        refine (KRx.out wB (HCwi.out.trans HCB.out)).mono ?_
        rintro e w5 ⟨⟨XK,xkc,rfl,hXK⟩,hc5⟩
        rw [HBX.out]
        clear c0 c1 c2 c3 c4
        obtain ⟨w6,hw6⟩ : ∃ w6,w6 = w5.alloc (.cells #[.slice x.RA xr x.rc,.bool xrr,.slice XK kn xkc] 68):=⟨_,rfl⟩
        obtain ⟨DX,hDX⟩ : ∃ DX,w5.heap.size = DX:=⟨_,rfl⟩
        have hg6 : RgB w6 DX (.slice x.RA xr x.rc) (.bool xrr) (.slice XK kn xkc):=by rw [hw6,← hDX];exact RgB.new w5 _ _ _
        have hc56 : Calm w5 w6:=by
         show Below _ _ _
         rw [hw6]
         exact (Calm.refl _).alloc _
        have HG6:=Lib.hid hg6
        have HXK:=Lib.hid (hXK.calm hc56)
        have HCB6 : Hid (Calm wB w6):=Calm.trans hc5 hc56
        have HW6:=Lib.hid hw6
        have HDX:=Lib.hid hDX
        clear hg6 hXK hc5 hc56 hw6 hDX
        go_wp2_with fail
        rw [← HW6.out,HDX.out]
        go_loopw [70] (fun u wr=>∃ j : Nat,j ≤ i ∧ u = .int .i64 j ∧ Hid (Calm w6 wr) ∧ Hid (∀ q y,q < j → es[q]? = some y → clashE x.e y = false)) (fun u _=>i - (intOf u).toNat)
        case atStart=>exact ⟨0,Nat.zero_le _,rfl,Calm.refl _,fun q y hq=>absurd hq (Nat.not_lt_zero _)⟩
        case round=>
         obtain ⟨j,hj,rfl,HCj6,HQ⟩:=hrel
         obtain ⟨wj,rfl⟩ : ∃ wj,wj = wr:=⟨_,rfl⟩
         by_cases hlt4 : j < i
         ·obtain ⟨b',o',y,e9,hb',hy,c0,c1,c2,c3,c4,huy⟩:=HE.out.get (k:=j) (by rw [HN.out];omega)
          obtain ⟨rfl,rfl⟩ : b = b' ∧ o = o':=by simpa using e9
          have HCwj : Hid (Calm w wj):=HCwi.out.trans (HCB.out.trans (HCB6.out.trans HCj6.out))
          have c0:=HCwj.out.at_ c0 hb
          have c1:=HCwj.out.at_ c1 hb
          have c2:=HCwj.out.at_ c2 hb
          have c3:=HCwj.out.at_ c3 hb
          have c4:=HCwj.out.at_ c4 hb
          have hb2:=Nat.lt_of_lt_of_le hb HCwj.out.size
          obtain ⟨gr,gg⟩:=entryOk_iff.1 (hall.out j y.e (by rw [HN.out];omega) hy)
          have hs:=HS.out y.e (List.mem_of_getElem? hy)
          have hyU:=huy.u hs (by have:=(gErr_zero gg).2.2;show y.e.reg.hs.length ≤ _;omega)
          obtain ⟨ls,r2⟩:=hrs.out j y.e (by rw [HN.out];omega) hy
          obtain ⟨yl,hyl⟩ : ∃ yl,y.e.left.parts.length = yl:=⟨_,rfl⟩
          obtain ⟨yr,hyr⟩ : ∃ yr,y.e.right.parts.length = yr:=⟨_,rfl⟩
          obtain ⟨ylr,hylr⟩ : ∃ ylr,y.e.left.rest = ylr:=⟨_,rfl⟩
          obtain ⟨yrr,hyrr⟩ : ∃ yrr,y.e.right.rest = yrr:=⟨_,rfl⟩
          obtain ⟨yh,hyh⟩ : ∃ yh,y.e.hs.length = yh:=⟨_,rfl⟩
          obtain ⟨ln,hln⟩ : ∃ ln,(redL y.e.right ls).length = ln:=⟨_,rfl⟩
          rw [hyl] at c0
          rw [hylr] at c1
          rw [hyr] at c2
          rw [hyrr] at c3
          rw [hyh] at c4
          have KRy : Hid (∀ W,Calm w W → Calls Tryz.prog 60 #[entV y.LA y.RA y.HA yl y.lc yr y.rc yh y.hc ylr yrr] W fun e w'=>(∃ KA kc,e = .returned (.tuple #[.agg #[.slice y.RA yr y.rc,.bool yrr,.slice KA ln kc],.bool true]) ∧ PatsN w' W.heap.size KA kc (redL y.e.right ls)) ∧ Calm W w'):=fun W hW=>by
           have:=rright_c y yl yr yh ylr yrr y.HA W (hyU.calm hW) hs gr gg hyl hyr hyh hylr hyrr rfl
           unfold RRightEnd at this
           rw [r2] at this
           simp only [hyr,hyrr,hln] at this
           exact this
          have g1:=rightHs_good HR1.out
          have g2:=rightHs_good r2
          have gx64:=(gErr_zero HXg.out.2).2.2
          have gy64:=(gErr_zero gg).2.2
          have gx64 : x.e.hs.length ≤ 64:=gx64
          have gy64 : y.e.hs.length ≤ 64:=gy64
          have hxh64 : xh ≤ 64:=by rw [← HXn.out.2.2.2.2];exact gx64
          have hyh64 : yh ≤ 64:=by rw [← hyh];exact gy64
          have hkn64 : kn ≤ 64:=by have:=g1.2;have:=redL_len x.e.right ks;have:=HKn.out;omega
          have hln64 : ln ≤ 64:=by have:=g2.2;have:=redL_len y.e.right ls;omega
          obtain ⟨v1,hv1⟩ : ∃ v1,commonG x.e.reg y.e.reg = v1:=⟨_,rfl⟩
          obtain ⟨v2,hv2⟩ : ∃ v2,commonG ⟨x.e.right,redL x.e.right ks⟩ ⟨y.e.right,redL y.e.right ls⟩ = v2:=⟨_,rfl⟩
          have HCl : Hid (clashE x.e y.e = (v1 || v2)):=by
           show _ = _
           rw [clashE_of HR1.out r2,hv1,← redC HR1.out r2,hv2]
          obtain ⟨wb,hwb⟩ : ∃ wb,wb = wj.alloc (.cells #[.slice y.LA yl y.lc,.bool ylr,.slice y.RA yr y.rc,.bool yrr,.slice y.HA yh y.hc] 43):=⟨_,rfl⟩
          obtain ⟨BY,hBY⟩ : ∃ BY,wj.heap.size = BY:=⟨_,rfl⟩
          have hcb : Calm wj wb:=by
           show Below _ _ _
           rw [hwb]
           exact (Calm.refl _).alloc _
          have hFy : FiveB wb BY (.slice y.LA yl y.lc) (.bool ylr) (.slice y.RA yr y.rc) (.bool yrr) (.slice y.HA yh y.hc):=by
           rw [hwb,← hBY]
           exact FiveB.new wj _ _ _ _ _ _
          have hcw : Calm w wb:=HCwj.out.trans hcb
          have HY:=Lib.hid hy
          have HYg:=Lib.hid (And.intro gr gg)
          have HYn:=Lib.hid (And.intro hyl (And.intro hyr (And.intro hylr (And.intro hyrr hyh))))
          have HYU:=Lib.hid hyU
          have HR2:=Lib.hid r2
          have HLn:=Lib.hid hln
          have HV:=Lib.hid (And.intro hv1 hv2)
          have HFy:=Lib.hid hFy
          have HWb:=Lib.hid hwb
          have HBY:=Lib.hid hBY
          have HCjb:=Lib.hid hcb
          have HCww:=Lib.hid hcw
          have HGs:=Lib.hid (And.intro hxh64 (And.intro hyh64 (And.intro hkn64 hln64)))
          have hjk : j < k:=by omega
          clear hy huy gr gg hs hyU hyl hyr hylr hyrr hyh r2 hln g1 g2 gx64 gy64 hv1 hv2 hwb hBY hcb hFy hcw e9 hxh64 hyh64 hkn64 hln64
          go_wp2_with fail
          rw [← HWb.out]
          refine (KRy.out wb HCww.out).mono ?_
          rintro e w7 ⟨⟨YK,ykc,rfl,hYK⟩,hc7⟩
          rw [HBY.out]
          clear c0 c1 c2 c3 c4
          obtain ⟨w8,hw8⟩ : ∃ w8,w8 = w7.alloc (.cells #[.slice y.RA yr y.rc,.bool yrr,.slice YK ln ykc] 68):=⟨_,rfl⟩
          obtain ⟨DY,hDY⟩ : ∃ DY,w7.heap.size = DY:=⟨_,rfl⟩
          have hg8 : RgB w8 DY (.slice y.RA yr y.rc) (.bool yrr) (.slice YK ln ykc):=by rw [hw8,← hDY];exact RgB.new w7 _ _ _
          have hc78 : Calm w7 w8:=by
           show Below _ _ _
           rw [hw8]
           exact (Calm.refl _).alloc _
          have hcb8 : Calm wb w8:=Calm.trans hc7 hc78
          have hc68 : Calm w6 w8:=HCj6.out.trans (HCjb.out.trans hcb8)
          have hcw8 : Calm w w8:=HCww.out.trans hcb8
          have hXg:=HG6.out.calm hc68
          have hFx:=HFx.out.calm (HCB6.out.trans hc68)
          have hFy:=HFy.out.calm hcb8
          have hXP:=HXK.out.calm hc68
          have hYP:=hYK.calm hc78
          have KLx : Hid (∀ q : CalmTo w8,Calls Tryz.prog 59 #[.agg #[.slice x.LA xl x.lc,.bool xlr,.slice x.RA xr x.rc,.bool xrr,.slice x.HA xh x.hc]] q.w fun e w'=>e = .returned (.agg #[.slice x.LA xl x.lc,.bool xlr,.slice x.HA xh x.hc]) ∧ Calm q.w w'):=(fun q : CalmTo w8=>rleft_c x.LA x.RA x.HA xl x.lc xr x.rc xh x.hc xlr xrr q.w)
          have KLy : Hid (∀ q : CalmTo w8,Calls Tryz.prog 59 #[.agg #[.slice y.LA yl y.lc,.bool ylr,.slice y.RA yr y.rc,.bool yrr,.slice y.HA yh y.hc]] q.w fun e w'=>e = .returned (.agg #[.slice y.LA yl y.lc,.bool ylr,.slice y.HA yh y.hc]) ∧ Calm q.w w'):=(fun q : CalmTo w8=>rleft_c y.LA y.RA y.HA yl y.lc yr y.rc yh y.hc ylr yrr q.w)
          have KC1:=Lib.hid (fun q : CalmTo w8=>rcommon_c x.e.reg y.e.reg v1 xl xh yl yh xlr ylr x.LA x.lc x.HA x.hc y.LA y.lc y.HA y.hc q.w (HXU.out.l.calm (hcw8.trans q.h)) (HXU.out.h.calm (hcw8.trans q.h)) (HYU.out.l.calm (hcw8.trans q.h)) (HYU.out.h.calm (hcw8.trans q.h)) (gErr_zero HXg.out.2).1 (gErr_zero HYg.out.2).1 (gErr_zero HXg.out.2).2.1 (gErr_zero HYg.out.2).2.1 HV.out.1 HXn.out.1 HXn.out.2.2.2.2 HXn.out.2.2.1 HYn.out.1 HYn.out.2.2.2.2 HYn.out.2.2.1 (by have:=HGs.out;omega))
          have KC2:=Lib.hid (fun q : CalmTo w8=>rcommon_c ⟨x.e.right,redL x.e.right ks⟩ ⟨y.e.right,redL y.e.right ls⟩ v2 xr kn yr ln xrr yrr x.RA x.rc XK xkc y.RA y.rc YK ykc q.w (HXU.out.r.calm (hcw8.trans q.h)) ((hXP.calm q.h).reads (by have:=HGs.out;have:=HKn.out;omega)) (HYU.out.r.calm (hcw8.trans q.h)) ((hYP.calm q.h).reads (by have:=HGs.out;have:=HLn.out;omega)) (ruleErr_twin.1 HXg.out.1).rp (ruleErr_twin.1 HYg.out.1).rp (fun p hp=>redL_good p hp) (fun p hp=>redL_good p hp) HV.out.2 HXn.out.2.1 HKn.out HXn.out.2.2.2.1 HYn.out.2.1 HLn.out HYn.out.2.2.2.1 (by have:=HGs.out;omega))
          have s0:=fun q : CalmTo w8=>q.cell hFx.c0 hFx.lt
          have s1:=fun q : CalmTo w8=>q.cell hFx.c1 hFx.lt
          have s2:=fun q : CalmTo w8=>q.cell hFx.c2 hFx.lt
          have s3:=fun q : CalmTo w8=>q.cell hFx.c3 hFx.lt
          have s4:=fun q : CalmTo w8=>q.cell hFx.c4 hFx.lt
          have t0:=fun q : CalmTo w8=>q.cell hFy.c0 hFy.lt
          have t1:=fun q : CalmTo w8=>q.cell hFy.c1 hFy.lt
          have t2:=fun q : CalmTo w8=>q.cell hFy.c2 hFy.lt
          have t3:=fun q : CalmTo w8=>q.cell hFy.c3 hFy.lt
          have t4:=fun q : CalmTo w8=>q.cell hFy.c4 hFy.lt
          have P0:=fun q : CalmTo w8=>q.cell hXg.c0 hXg.lt
          have P1:=fun q : CalmTo w8=>q.cell hXg.c1 hXg.lt
          have P2:=fun q : CalmTo w8=>q.cell hXg.c2 hXg.lt
          have Q0:=fun q : CalmTo w8=>q.cell hg8.c0 hg8.lt
          have Q1:=fun q : CalmTo w8=>q.cell hg8.c1 hg8.lt
          have Q2:=fun q : CalmTo w8=>q.cell hg8.c2 hg8.lt
          have HW8:=Lib.hid hw8
          have HDY:=Lib.hid hDY
          have HC68:=Lib.hid hc68
          have HCw8:=Lib.hid hcw8
          clear hYK hc7 hw8 hDY hg8 hc78 hcb8 hc68 hcw8 hXg hFx hFy hXP hYP
          go_wp2_with fail
          rw [← HW8.out,HDY.out]
          refine wp_region_calm (by kernel_rfl) (by kernel_rfl) ?_
          cases v1 with
          |true=>
           have hcl : Hid (clashE x.e y.e = true):=HCl.out
           repeat (go_big_quiet_step (first
            |(go_at_call 59;first | with_reducible exact calmOf (KLx.out _) | with_reducible exact calmOf (KLy.out _))
            |(go_at_call 61;first | with_reducible exact calmOf (KC1.out _) | with_reducible exact calmOf (KC2.out _))))
           refine wpQuiet_nil ?_
           intro w9 hc9
           have HE : Hid (mapE es = (i,71)):=mapE_over hall.out (by rw [HN.out];exact h32') hrs.out (by rw [HN.out];exact hlt3) (clashAt_true HX.out HY.out hlt4 hcl.out) HP.out
           have HC9:=Lib.hid (HCw8.out.trans hc9)
           clear hc9 s0 s1 s2 s3 s4 t0 t1 t2 t3 t4 P0 P1 P2 Q0 Q1 Q2
           go_wp2
           go_ret2
           exact ⟨by rw [HE.out];rfl,HC9.out⟩
          |false=>
           have hcl : Hid (clashE x.e y.e = v2):=HCl.out
           repeat (go_big_quiet_step (first
            |(go_at_call 59;first | with_reducible exact calmOf (KLx.out _) | with_reducible exact calmOf (KLy.out _))
            |(go_at_call 61;first | with_reducible exact calmOf (KC1.out _) | with_reducible exact calmOf (KC2.out _))))
           refine wpQuiet_nil ?_
           intro w9 hc9
           have HC9:=Lib.hid (HCw8.out.trans hc9)
           have HC9B:=Lib.hid (HC68.out.trans hc9)
           clear hc9 s0 s1 s2 s3 s4 t0 t1 t2 t3 t4 P0 P1 P2 Q0 Q1 Q2
           cases v2 with
           |true=>
            have HE : Hid (mapE es = (i,71)):=mapE_over hall.out (by rw [HN.out];exact h32') hrs.out (by rw [HN.out];exact hlt3) (clashAt_true HX.out HY.out hlt4 hcl.out) HP.out
            go_wp2
            go_ret2
            exact ⟨by rw [HE.out];rfl,HC9.out⟩
           |false=>
            go_wp2
            go_roundw
            case rel=>exact ⟨j + 1,by omega,by go_num,HC9B.out,none_step (pr:=fun q : Ent=>clashE x.e q) HY.out hcl.out HQ.out⟩
            case measure=>simp [intOf];omega
         ·obtain rfl : j = i:=by omega
          have hcl : clashAt es j = false:=clashAt_false HX.out HQ.out
          go_wp2_with fail
          go_roundw
          case rel=>exact ⟨j + 1,by omega,by go_num,HCi.out.trans (HCB.out.trans (HCB6.out.trans HCj6.out)),clashStep hcl HP.out⟩
          case measure=>simp [intOf];omega
       ·obtain rfl : i = k:=by omega
        have hE : Hid (mapE es = (0,0)):=mapE_fine hall.out (by rw [HN.out];exact h32') hrs.out (fun j hj=>HP.out j (by rw [← HN.out];exact hj))
        go_wp2_with fail
        go_ret2
        exact ⟨by rw [hE.out];rfl,HCj.out.trans HCi.out⟩
end Go.Proofs.YtnlnclefedohkaaGreatDoor
